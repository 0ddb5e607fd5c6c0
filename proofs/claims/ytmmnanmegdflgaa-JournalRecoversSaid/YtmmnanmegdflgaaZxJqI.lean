/-
  Contracts: the law JournalRecovers (chapter 42).
-/
import Derived.Test.YtmmnanmegdflgaaZxJqH
import Derived.Test.YtmmnanmegdflgaaZ23
set_option linter.unusedVariables false
set_option linter.unusedSimpArgs false
set_option maxRecDepth 100000
namespace Go.Proofs.Ytmmnanmegdflgaa
open Go.RowKit Go.BigFrame Go.Sort Go.Lib
namespace Jn
open Ad Adm Law39 Lg Lgc Strs
set_option maxHeartbeats 8000000 in
theorem recovers_any (o1 : Option Addr) (len1 cap1 : Nat) (z1 : List Int) (cut more : Int) (hcut : (Lit.int .i64 cut).wf = true) (hmore : (Lit.int .i64 more).wf = true) (w : World) (h1 : Rw.IsRow .i64 w o1 len1 cap1 z1) :
    Calls Try.prog 5 #[.slice o1 len1 cap1, .int .i64 cut, .int .i64 more] w fun e w' => e = .returned (.bool true) ∧ Held w w' := by
  have HAW := Lib.hid awake_any
  obtain ⟨L, hL, hlen⟩ := nums_in h1
  have hcutb := Rw.bd_i64 hcut
  have HL := Lib.hid hL
  have HLL : Is L.length len1 := ⟨hL.1⟩
  clear h1 hL hmore hcut
  by_cases h60 : (40 : Int) < len1
  · go_enter Try.func5, Try.ntmps5
    go_wp2_with fail
    refine (HAW.out _).mono ?_
    rintro e w1 ⟨rfl, h⟩
    go_wp2
    go_ret
    exact ⟨rfl, h⟩
  have M0 := Lib.hid (((Mem.start w).nilRow (e := 3) (s := 1) (f := inN)).oneRow (e := 37) (s := 2) (f := rvF) (b := w.heap.size) rfl #[.slice none 0 0, .slice none 0 0] ⟨none, 0, 0, none, 0, 0⟩ rfl rfl)
  go_enter Try.func5, Try.ntmps5
  go_wp2
  go_loopw [7, 8, 9, 10] (fun v7 v8 v9 i wr => ∃ (j : Nat) (s : ByteArray) (E : List Int) (G : List RV), v7 = .string s ∧ i = .int .i64 j ∧ j ≤ len1 ∧ Lp L j s E G ∧ Mem w wr [.row 3 1 inN w.heap.size (v8) (E), .row 37 2 rvF w.heap.size (v9) (G)] ∧ Regs wr v8.ownBlock v9.ownBlock G (fun i => recov (opsL L i))) (fun _ _ _ i _ => len1 - (intOf i).toNat)
  case atStart => exact ⟨0, ⟨#[]⟩, [], [⟨none, 0, 0, none, 0, 0⟩], rfl, rfl, Nat.zero_le _, Lp.start _ _, M0.out, Regs.start rfl _ _⟩
  case round =>
    obtain ⟨j, s, E, G, rfl, rfl, hj, hLP, hM, hG⟩ := hrel
    obtain ⟨hsz, hs25⟩ := hLP.sz (by omega)
    have HLP := Lib.hid hLP
    have HRG := Lib.hid hG
    have M3 := Lib.hid hM
    obtain ⟨A8, cp8, rfl, _, _⟩ := (hM.row 0 rfl).shape
    obtain ⟨A9, cp9, rfl, _, _⟩ := (hM.row 1 rfl).shape
    rw [hLP.el] at M3 HRG ⊢
    rw [hLP.g] at M3 HRG ⊢
    obtain ⟨rg, x, rfl, hg0, hg1, hx, hxc⟩ := M3.out.slot 1 rfl rvF_len (by decide) (k := j) (by rw [HLP.out.g]; omega)
    have x0 := (hxc 0 (by decide)).2 _ rfl
    have x1 := (hxc 1 (by decide)).2 _ rfl
    rw [Nat.add_zero] at x0
    have HO := Lib.hid (HRG.out j x hx)
    obtain ⟨hn1, hn2⟩ := HO.out.on.hn
    obtain ⟨A1, n1, c1, A2, n2, c2⟩ := x
    dsimp only at x0 x1 hn1 hn2
    have HX0 := Lib.hid hx
    clear hLP hG hM M0 hx hxc
    by_cases hlt : (j : Int) < len1
    · obtain ⟨lb, off, z, rfl, hlb, hz, y0⟩ := in_at HL.out M3.out.held (k := j) (by omega)
      have HZ := Lib.hid hz
      have j0 : ¬ (j : Int) < 0 := by omega
      have hnm1 := mg_nm z
      have hmc := fun w' => manage_any z w'
      obtain ⟨hok, had⟩ := HLP.out.app (by omega) hz
      obtain ⟨s2, hs2⟩ : ∃ s2 : ByteArray, (⟨(recs 0 (opsL L (j + 1))).toArray⟩ : ByteArray) = s2 := ⟨_, rfl⟩
      have hs2l : s2.data.toList = recs 0 (opsL L (j + 1)) := by rw [← hs2]
      have hs2z : s2.size = endL L (j + 1) := by rw [← nm_len, hs2l]; rfl
      have hrn : recov (opsL L (j + 1)) = (apply (recov (opsL L j)) (mg z)).1 := by rw [opsL_at hz]; exact run_snoc _ _ _
      obtain ⟨k, nm, a, b, dr, dl, dc, dg, cm, cc, up, hmg⟩ := mg_any z
      rw [hmg] at hmc hnm1 hok had hrn
      dsimp only [manC] at hmc hnm1
      have MGC := Lib.hid hmc
      have hnm : (nm.size : Int) ≤ 1000000000 := by omega
      have hap2 := fun w' => append_any s (by omega) k nm a b dr dl dc dg cm cc up hnm w'
      unfold AppTo at hap2
      rw [hok, had, hs2] at hap2
      have APC := Lib.hid hap2
      obtain ⟨r', er, hap⟩ : ∃ r' er, apply (recov (opsL L j)) ⟨k, nm, a, b, ⟨dr, dl, dc, dg⟩, ⟨cm, cc, up⟩⟩ = (r', er) := ⟨_, _, rfl⟩
      have HAP := Lib.hid hap
      have hvr : VR r' := by
        have := vr_apply ⟨k, nm, a, b, ⟨dr, dl, dc, dg⟩, ⟨cm, cc, up⟩⟩ HO.out.on.v
        rw [hap] at this
        exact this
      have HVR := Lib.hid hvr
      rw [hap] at hrn
      have HRN : Is (recov (opsL L (j + 1))) r' := ⟨hrn⟩
      have HLP2 := Lib.hid fun x => HLP.out.step hz hs2l x
      have HS2Z : Is s2.size (endL L (j + 1)) := ⟨hs2z⟩
      have he25 : (endL L (j + 1) : Int) ≤ 2500 := by
        have := (HLP2.out ⟨none, 0, 0, none, 0, 0⟩).sz (by omega)
        omega
      clear hmc hnm1 hok had hs2 hs2l hs2z hrn hmg hap2 hap hvr hz
      go_wp2_with fail
      refine (MGC.out _).mono ?_
      rintro e w2 ⟨rfl, h2⟩
      go_wp2_with fail
      refine (APC.out _).mono ?_
      rintro e wq ⟨rfl, h3⟩
      have kq : Held wr wq := ((Held.refl wr).step h2).step h3
      have HRG := Lib.hid (HRG.out.held kq)
      have M3 := Lib.hid (M3.out.keep kq)
      have y0 := kq.cell y0
      clear h2 h3 x0 x1
      have hs2e : (s2.size : Int) = (endL L (j + 1) : Int) := by rw [HS2Z.out]
      go_wp2_with (at_builtin; refine Mem.wp_appG (M3.out.skip _) 0 rfl rfl _ _ _ rfl _ 8 Try.underlying33 info_int rfl (by decide) inN_len inN_one ((endL L (j + 1) : Nat) : Int) ⟨wq.heap.size, 0, none⟩ 1 rfl rfl (cells_new _ rfl _ _) j HLP.out.el (by omega) (by decide) ?_; intro g8 cp8 wz M3h hgrow hgb; have M4 := Lib.hid M3h; have HRG4 := Lib.hid ((HRG.out.held ((Held.refl wq).alloc _)).grownE hgrow hgb); clear M3h hgrow hgb)
      have M3 := Lib.hid M4.out
      have HRG := Lib.hid HRG4.out
      obtain ⟨rg', x, hrg, _, _, hx, hxc⟩ := M3.out.slot 1 rfl rvF_len (by decide) (k := j) (by rw [HLP.out.g]; omega)
      injection hrg with hrg
      injection hrg with hrg
      subst hrg
      have hxe : x = ⟨A1, n1, c1, A2, n2, c2⟩ := by rw [HX0.out] at hx; injection hx with e; exact e.symm
      subst hxe
      have x0 := (hxc 0 (by decide)).2 _ rfl
      have x1 := (hxc 1 (by decide)).2 _ rfl
      rw [Nat.add_zero] at x0
      dsimp only at x0 x1
      have y1 := in_at HL.out M3.out.held (k := j) (by omega)
      obtain ⟨lb', off', z', hbe, _, hz2, y1⟩ := y1
      injection hbe with hbe
      injection hbe with hbe1 hbe2
      subst hbe1 hbe2
      have hzz : z' = z := by rw [HZ.out] at hz2; injection hz2 with e; exact e.symm
      rw [hzz] at y1
      clear hz2 hzz y0 hx hxc
      have y0 := y1
      clear y1
      have HO := Lib.hid (HRG.out j _ HX0.out)
      have HE8 := Lib.hid (Own.ownLt (M3.out.row 0 rfl))
      have jb0 : (0 : Int) ≤ (j : Int) := by omega
      have jb1 : (j : Int) < ((j + 1 : Nat) : Int) := by omega
      have jb2 : (j : Int) < (j : Int) + 1 := by omega
      have jb3 : j < j + 1 := by omega
      have HG9 := Lib.hid (Own.ownLt (M3.out.row 1 rfl))
      have HC := Lib.hid (fun w' (q : Held wz w') => And.intro (q.cell x0) (And.intro (q.cell x1) (q.cell y0)))
      have MB0 := Lib.hid ((M3.out.alloc' (b := wz.heap.size) rfl #[.slice none 0 0, .slice none 0 0] 37).drew)
      go_wp2
      go_cut [13, 14] from 55 to 67 (fun v13 v14 wx => ∃ b13 B1 m1 e1 B2 m2 e2, v13 = .pointer (some ⟨b13, 0, none⟩) ∧ v14 = .int .i64 er ∧ Mem w wx [.row 3 1 inN w.heap.size (.slice (some ⟨g8, 0, none⟩) (j + 1) cp8) (E ++ [((endL L (j + 1) : Nat) : Int)]), .row 37 2 rvF w.heap.size (.slice (some ⟨rg, 0, none⟩) (j + 1) cp9) (G), .box b13 #[.slice B1 m1 e1, .slice B2 m2 e2] 37] ∧ RegX wx (some g8) (some rg) ⟨B1, m1, e1, B2, m2, e2⟩ r' ∧ Regs wx (some g8) (some rg) G (fun i => recov (opsL L i)))
      case first =>
        go_region_held3 (fun w' => w'.cell? ⟨rg, j * 2, none⟩ = some (.slice A1 n1 c1) ∧ w'.cell? ⟨rg, j * 2 + 1, none⟩ = some (.slice A2 n2 c2) ∧ w'.cell? ⟨lb, off + j, none⟩ = some (.int .i64 z))
          (first | exact HC.out _ (Held.refl _).drew | exact HC.out _ ((Held.refl wz).alloc _).drew | exact Hid.out (by assumption))
          (first
            | (go_at_call 13; refine (MGC.out _).mono ?_; rintro e w4 ⟨rfl, h4⟩; first | (have k4 : Held wz w4 := (Held.refl wz).drew.step h4; have M4 := Lib.hid (M3.out.drew.keep h4); have kM := Lib.hid (HC.out w4 k4); have kN := Lib.hid (HC.out (w4.alloc (.cells #[.slice none 0 0, .slice none 0 0] 37)) (k4.alloc _)); have MC4 := Lib.hid (M4.out.alloc' (b := w4.heap.size) rfl #[.slice none 0 0, .slice none 0 0] 37)) | (have k4 : Held wz w4 := ((Held.refl wz).alloc _).drew.step h4; have MB4 := Lib.hid (MB0.out.keep h4); have kM := Lib.hid (HC.out w4 k4)))
            | (go_at_call 12; refine (apply_fr A1 n1 c1 A2 n2 c2 (recov (opsL L j)) k nm a b dr dl dc dg cm cc up _ (HO.out.on.reg.held k4) hn1 hn2 HO.out.on.nm hnm).mono ?_; rintro e w5 ⟨B1, m1, e1, B2, m2, e2, rfl, h5, hR0, hcp, hf1, hf2⟩; rw [HAP.out] at hR0 ⊢; simp only at hR0 ⊢; have hR := RegX.fresh (e := (some g8)) (g := (some rg)) ⟨hR0, hcp, HVR.out⟩ hf1 hf2 (fun q hq => Nat.lt_of_lt_of_le (HE8.out q hq) (Held.le k4)) (fun q hq => Nat.lt_of_lt_of_le (HG9.out q hq) (Held.le k4)); have kz := Lib.hid (HC.out w5 (k4.step h5)); have M5 := MB4.out.keep h5; obtain ⟨⟨z0, z1⟩, ⟨zf0, zf1⟩, zlt⟩ := M5.box2 2 rfl; have M6 := M5.put 2 rfl 0 (.slice B1 m1 e1); have MX := Lib.hid (M6.put 2 rfl 1 (.slice B2 m2 e2)); have HRX := Lib.hid ((hR.put z0 (.slice B1 m1 e1)).put (M6.cell 2 rfl 1 rfl) (.slice B2 m2 e2)); have HGX := Lib.hid (((HRG.out.held (k4.step h5)).put z0 (.slice B1 m1 e1)).put (M6.cell 2 rfl 1 rfl) (.slice B2 m2 e2)); have ky := Lib.hid (HC.out _ (((k4.step h5).set (p := ⟨wz.heap.size, 0, none⟩) (Nat.le_refl _) (.slice B1 m1 e1)).set (p := ⟨wz.heap.size, 1, none⟩) (Nat.le_refl _) (.slice B2 m2 e2))))
            | (go_at_call 12; refine (apply_fr A1 n1 c1 A2 n2 c2 (recov (opsL L j)) k nm a b dr dl dc dg cm cc up _ (HO.out.on.reg.held k4) hn1 hn2 HO.out.on.nm hnm).mono ?_; rintro e w5 ⟨B1, m1, e1, B2, m2, e2, rfl, h5, hR0, hcp, hf1, hf2⟩; rw [HAP.out] at hR0 ⊢; simp only at hR0 ⊢; have hR := RegX.fresh (e := (some g8)) (g := (some rg)) ⟨hR0, hcp, HVR.out⟩ hf1 hf2 (fun q hq => Nat.lt_of_lt_of_le (HE8.out q hq) (Held.le k4)) (fun q hq => Nat.lt_of_lt_of_le (HG9.out q hq) (Held.le k4)); have kz := Lib.hid (HC.out w5 (k4.step h5)); have ky := Lib.hid (HC.out (w5.alloc (.cells #[.slice B1 m1 e1, .slice B2 m2 e2] 37)) ((k4.step h5).alloc _)); have kx := Lib.hid (HC.out (w5.alloc (.cells #[.slice none 0 0, .slice none 0 0] 37)) ((k4.step h5).alloc _)); have MX := Lib.hid ((M4.out.keep h5).alloc #[.slice B1 m1 e1, .slice B2 m2 e2] 37); have HRX := Lib.hid (hR.held ((Held.refl w5).alloc (.cells #[.slice B1 m1 e1, .slice B2 m2 e2] 37))); have HGX := Lib.hid (HRG.out.held ((k4.step h5).alloc (.cells #[.slice B1 m1 e1, .slice B2 m2 e2] 37))))
            | (go_at_call 12; refine (apply_fr A1 n1 c1 A2 n2 c2 (recov (opsL L j)) k nm a b dr dl dc dg cm cc up _ (HO.out.on.reg.held (k4.alloc _)) hn1 hn2 HO.out.on.nm hnm).mono ?_; rintro e w5 ⟨B1, m1, e1, B2, m2, e2, rfl, h5, hR0, hcp, hf1, hf2⟩; rw [HAP.out] at hR0 ⊢; simp only at hR0 ⊢; have hR := RegX.fresh (e := (some g8)) (g := (some rg)) ⟨hR0, hcp, HVR.out⟩ hf1 hf2 (fun q hq => Nat.lt_of_lt_of_le (HE8.out q hq) (Held.le (k4.alloc _))) (fun q hq => Nat.lt_of_lt_of_le (HG9.out q hq) (Held.le (k4.alloc _))); have kz := Lib.hid (HC.out w5 ((k4.alloc _).step h5)); have M5 := MC4.out.keep h5; obtain ⟨⟨z0, z1⟩, ⟨zf0, zf1⟩, zlt⟩ := M5.box2 2 rfl; have M6 := M5.put 2 rfl 0 (.slice B1 m1 e1); have MX := Lib.hid (M6.put 2 rfl 1 (.slice B2 m2 e2)); have HRX := Lib.hid ((hR.put z0 (.slice B1 m1 e1)).put (M6.cell 2 rfl 1 rfl) (.slice B2 m2 e2)); have HGX := Lib.hid (((HRG.out.held ((k4.alloc _).step h5)).put z0 (.slice B1 m1 e1)).put (M6.cell 2 rfl 1 rfl) (.slice B2 m2 e2)); have ky := Lib.hid (HC.out _ ((((k4.alloc _).step h5).set (p := ⟨w4.heap.size, 0, none⟩) k4.le (.slice B1 m1 e1)).set (p := ⟨w4.heap.size, 1, none⟩) k4.le (.slice B2 m2 e2)))))
        all_goals
          go_wp2
          go_meet
          case rel => exact ⟨_, B1, m1, e1, B2, m2, e2, rfl, rfl, MX.out, HRX.out, HGX.out⟩
      case rest =>
        obtain ⟨b13, B1, m1, e1, B2, m2, e2, rfl, rfl, hM, hR, hG⟩ := hcut
        have M7 := Lib.hid hM
        have HX := Lib.hid hR
        have HG := Lib.hid hG
        clear hM hR hG MB0 HC x0 x1 y0 M3 HRG HO M4 HRG4
        obtain ⟨⟨d0, d1⟩, ⟨df0, df1⟩, dlt⟩ := M7.out.box2 2 rfl
        by_cases he : er = 0
        · subst he
          have HX2 : Hid (RegX wc (some g8) (some rg) ⟨B1, m1, e1, B2, m2, e2⟩ (recov (opsL L (j + 1)))) := by rw [HRN.out]; exact HX
          go_wp2_with (at_builtin; refine Mem.wp_appG (M7.out.skip _) 1 rfl rfl _ _ _ rfl _ 48 Try.underlying45 info_reg rfl (by decide) rvF_len rvF_one ⟨B1, m1, e1, B2, m2, e2⟩ ⟨wc.heap.size, 0, none⟩ 1 rfl rfl (cells_new _ (by simp) _ _) (j + 1) HLP.out.g (by omega) (by decide) ?_; intro g9 cp9 wz M7h hgrow hgb; have M8 := Lib.hid (M7h.take 2); have HX8 := Lib.hid ((HX2.out.held ((Held.refl _).alloc _)).grownG hgrow hgb); have HG8 := Lib.hid ((HG.out.held ((Held.refl _).alloc _)).grownG hgrow hgb); clear M7h hgrow hgb)
          clear d0 d1 df0 df1 dlt
          go_roundw
          case rel => exact ⟨j + 1, s2, _, _, rfl, by go_num, by omega, HLP2.out _, M8.out, HG8.out.snoc HX8.out HLP.out.g⟩
          case measure => (simp [intOf]) <;> omega
        · have hrr : r' = recov (opsL L j) := by
            have := apply_errI HAP.out he
            rw [HAP.out] at this
            injection this
          have heb : (er != 0) = true := by simp [he]
          obtain ⟨rg', x, hrg, _, _, hx, hxc⟩ := M7.out.slot 1 rfl rvF_len (by decide) (k := j) (by rw [HLP.out.g]; omega)
          injection hrg with hrg
          injection hrg with hrg
          subst hrg
          have hxe : x = ⟨A1, n1, c1, A2, n2, c2⟩ := by rw [HX0.out] at hx; injection hx with e; exact e.symm
          subst hxe
          have x0 := (hxc 0 (by decide)).2 _ rfl
          have x1 := (hxc 1 (by decide)).2 _ rfl
          rw [Nat.add_zero] at x0
          dsimp only at x0 x1
          have HXA : Hid (RegX wc (some g8) (some rg) ⟨A1, n1, c1, A2, n2, c2⟩ (recov (opsL L (j + 1)))) := by rw [HRN.out, hrr]; exact Lib.hid (HG.out j _ HX0.out)
          have MP1 := M7.out.put 2 rfl 0 (.slice A1 n1 c1)
          have p1 := MP1.cell 2 rfl 1 rfl
          have MP := Lib.hid (MP1.put 2 rfl 1 (.slice A2 n2 c2))
          have HX2 := Lib.hid ((HXA.out.put d0 (.slice A1 n1 c1)).put p1 (.slice A2 n2 c2))
          have HG2 := Lib.hid ((HG.out.put d0 (.slice A1 n1 c1)).put p1 (.slice A2 n2 c2))
          clear he hrr hx hxc MP1 p1 HXA
          go_wp2_with (at_builtin; refine Mem.wp_appG (MP.out.skip _) 1 rfl rfl _ _ _ rfl _ 48 Try.underlying45 info_reg rfl (by decide) rvF_len rvF_one ⟨A1, n1, c1, A2, n2, c2⟩ ⟨wc.heap.size, 0, none⟩ 1 rfl rfl (cells_new _ (by simp) _ _) (j + 1) HLP.out.g (by omega) (by decide) ?_; intro g9 cp9 wz M7h hgrow hgb; have M8 := Lib.hid (M7h.take 2); have HX8 := Lib.hid ((HX2.out.held ((Held.refl _).alloc _)).grownG hgrow hgb); have HG8 := Lib.hid ((HG2.out.held ((Held.refl _).alloc _)).grownG hgrow hgb); clear M7h hgrow hgb)
          clear d0 d1 df0 df1 dlt x0 x1
          go_roundw
          case rel => exact ⟨j + 1, s2, _, _, rfl, by go_num, by omega, HLP2.out _, M8.out, HG8.out.snoc HX8.out HLP.out.g⟩
          case measure => (simp [intOf]) <;> omega
    · obtain rfl : len1 = j := by omega
      have HSZ : Is s.size (endL L len1) := ⟨hsz⟩
      clear hsz
      obtain ⟨wA, rfl⟩ : ∃ wA : World, wA = wr := ⟨_, rfl⟩
      obtain ⟨at_, hat⟩ : ∃ at_ : Nat, Mk.round cut ((s.size : Int) + 1) = at_ := by
        have := Mk.round_bd cut ((s.size : Int) + 1) (by omega)
        exact ⟨(Mk.round cut ((s.size : Int) + 1)).toNat, by omega⟩
      have hatb : at_ ≤ s.size := by
        have := Mk.round_bd cut ((s.size : Int) + 1) (by omega)
        omega
      have HRD := Lib.hid fun w' => Mk.round_any cut ((s.size : Int) + 1) hcutb.1 hcutb.2 (by omega) (by omega) w'
      rw [hat] at HRD
      clear hat
      go_wp2_with fail
      refine (HRD.out _).mono ?_
      rintro e w' ⟨rfl, rfl⟩
      go_wp2
      go_loopw [16] (fun i wr => ∃ n : Nat, i = .int .i64 n ∧ n ≤ len1 ∧ Hid (endL L n ≤ at_) ∧ Held wA wr) (fun i _ => len1 - (intOf i).toNat)
      case atStart => exact ⟨0, rfl, Nat.zero_le _, Lib.hid (Nat.zero_le _), Held.refl _⟩
      case round =>
        obtain ⟨n, rfl, hn, HN0, hk⟩ := hrel
        have HK := Lib.hid hk
        have M4 := Lib.hid (M3.out.keep hk)
        clear hk
        by_cases hlt2 : (n : Int) < len1
        · obtain ⟨ge, y, hga, _, _, hy, hyc⟩ := M4.out.slot 0 rfl inN_len (by decide) (k := n) (by rw [HLP.out.el]; omega)
          subst hga
          have hye : y = ((endL L (n + 1) : Nat) : Int) := by rw [HLP.out.e n (by omega)] at hy; injection hy with e; exact e.symm
          have y0 := (hyc 0 (by decide)).2 _ rfl
          rw [hye, Nat.add_zero, Nat.mul_one] at y0
          have n0 : ¬ (n : Int) < 0 := by omega
          clear hy hye hyc x0 x1
          obtain ⟨en, hen⟩ : ∃ en, endL L (n + 1) = en := ⟨_, rfl⟩
          have HEN : Is (endL L (n + 1)) en := ⟨hen⟩
          rw [hen] at y0
          clear hen
          by_cases hle : (en : Int) ≤ at_
          · have HN1 : Hid (endL L (n + 1) ≤ at_) := Lib.hid (by rw [HEN.out]; omega)
            go_wp2
            go_roundw
            case rel => exact ⟨n + 1, by go_num, by omega, HN1, HK.out⟩
            case measure => (simp [intOf]) <;> omega
          · have HX1 : Hid (n < len1 → at_ < endL L (n + 1)) := Lib.hid fun _ => by rw [HEN.out]; omega
            have hd : decide ((en : Int) ≤ at_) = false := decide_eq_false hle
            have hd2 : decide (en ≤ at_) = false := decide_eq_false (by omega)
            have HF := Lib.hid (parse_cut (L := opsL L len1) (opsL_tiny L len1) (by rw [opsL_len HLP.out.le]; omega) (at_ := at_) (n := n) (by rw [opsL_len HLP.out.le]; exact hn) (by rw [opsL_take hn]; exact HN0.out) (by rw [opsL_len HLP.out.le]; intro h; rw [opsL_take (by omega)]; exact HX1.out h) (by have := HSZ.out; unfold endL at this; rw [← this]; exact hatb))
            have hpl := HF.out
            rw [opsL_take hn] at hpl
            obtain ⟨t, ht⟩ : ∃ t : ByteArray, s.extract 0 (endL L n) = t := ⟨_, rfl⟩
            have htl : t.data.toList = recs 0 (opsL L n) := by
              rw [← ht, str_take HLP.out.s]
              have := recs_split (opsL L len1) n
              rw [opsL_take hn] at this
              rw [this]
              exact List.take_left' rfl
            have hex : (s.extract 0 at_).data.toList = (recs 0 (opsL L len1)).take at_ := by rw [str_take HLP.out.s]
            have hrec := fun w' => recover_any (s.extract 0 at_) (by rw [ByteArray.size_extract]; omega) w'
            unfold RecTo at hrec
            have htt : (⟨(((recs 0 (opsL L len1)).take at_).take (recs 0 (opsL L n)).length).toArray⟩ : ByteArray) = t := by
              apply ba_ext
              rw [htl, List.take_take, Nat.min_eq_left (by have := HN0.out; unfold endL at this; exact this)]
              have := recs_split (opsL L len1) n
              rw [opsL_take hn] at this
              simp only
              rw [this]
              exact List.take_left' rfl
            rw [hex, hpl.1, hpl.2, htt] at hrec
            have HREC := Lib.hid hrec
            have HT := Lib.hid ht
            have HTL := Lib.hid htl
            have htz : (t.size : Int) ≤ 2500 := by
              have h1 := nm_len t
              rw [htl] at h1
              have h2 := endL_mono (L := L) hn
              have h3 := HSZ.out
              unfold endL at h2 h3
              omega
            clear HF hpl ht htl hex hrec htt
            go_wp2_with fail
            refine (HREC.out _).mono ?_
            rintro e w5 ⟨B1, m1, e1, B2, m2, e2, rfl, h5, hR, hcp⟩
            have HR5 := Lib.hid (hR.held ((Held.refl w5).alloc (.cells #[.slice B1 m1 e1, .slice B2 m2 e2] 37)))
            have HCP := Lib.hid hcp
            have hbn1 : (m1 : Int) ≤ 1000000 := by have := hR.hs.1; have := (vr_recov (opsL L n)).hl; omega
            have hbn2 : (m2 : Int) ≤ 1000000 := by have := hR.gs.1; have := (vr_recov (opsL L n)).gl; omega
            have M5 := Lib.hid ((M3.out.keep (HK.out.step h5)).alloc' (b := w5.heap.size) rfl #[.slice B1 m1 e1, .slice B2 m2 e2] 37)
            have HG5 := Lib.hid (HRG.out.held ((HK.out.step h5).alloc (.cells #[.slice B1 m1 e1, .slice B2 m2 e2] 37)))
            clear h5 hR hcp HREC
            obtain ⟨w6, hw6⟩ : ∃ w6, w5.alloc (.cells #[.slice B1 m1 e1, .slice B2 m2 e2] 37) = w6 := ⟨_, rfl⟩
            obtain ⟨b17, hb17⟩ : ∃ b17, w5.heap.size = b17 := ⟨_, rfl⟩
            have HW6 := Lib.hid hw6
            have HB17 := Lib.hid hb17
            clear hw6 hb17
            go_wp2_with fail
            rw [HW6.out, HB17.out]
            rw [HW6.out, HB17.out] at M5
            rw [HW6.out] at HR5 HG5
            obtain ⟨⟨a0, a1⟩, _, alt⟩ := M5.out.box2 2 rfl
            obtain ⟨rg', y, hrg, _, _, hy, hyc⟩ := M5.out.slot 1 rfl rvF_len (by decide) (k := n) (by rw [HLP.out.g]; omega)
            injection hrg with hrg
            injection hrg with hrg
            subst hrg
            have HY := Lib.hid (HG5.out n y hy)
            have u0 := (hyc 0 (by decide)).2 _ rfl
            have u1 := (hyc 1 (by decide)).2 _ rfl
            rw [Nat.add_zero] at u0
            obtain ⟨D1, d1n, d1c, D2, d2n, d2c⟩ := y
            dsimp only at u0 u1
            have k0 := cell_regrown a0
            have k1 := cell_regrown a1
            have k2 := cell_regrown u0
            have k3 := cell_regrown u1
            have cS := Lib.hid fun dd os => Calls.regrown_of (d := dd) (os := os) (same_ref_any B1 m1 e1 B2 m2 e2 D1 d1n d1c D2 d2n d2c (recov (opsL L n)) (recov (opsL L n)) (grow (redrawn w6 dd) os) (HR5.out.held (below_regrown w6 dd os)) (HY.out.on.reg.held (below_regrown w6 dd os)) hbn1 hbn2)
            rw [sameR_yes (r := recov (opsL L n)) rfl] at cS
            clear hy hyc a0 a1 u0 u1 HY
            obtain ⟨RR, hRR⟩ : ∃ RR, recov (opsL L n) = RR := ⟨_, rfl⟩
            have HRR : Is (recov (opsL L n)) RR := ⟨hRR⟩
            have HVRR : Hid (VR RR) := by rw [← hRR]; exact Lib.hid (vr_recov _)
            rw [hRR] at HR5
            clear hRR
            have hta := tiny_app (opsL_tiny L n) (mg_tiny more) (by rw [opsL_len (by rw [HLL.out]; exact hn)]; omega)
            obtain ⟨t2, ht2⟩ : ∃ t2 : ByteArray, (⟨(recs 0 (opsL L n ++ [mg more])).toArray⟩ : ByteArray) = t2 := ⟨_, rfl⟩
            have ht2l : t2.data.toList = recs 0 (opsL L n ++ [mg more]) := by rw [← ht2]
            have hall : ∀ o ∈ opsL L n ++ [mg more], Tiny o := by
              intro o ho
              rcases List.mem_append.1 ho with ho | ho
              · exact opsL_tiny L n o ho
              · simp at ho; subst ho; exact mg_tiny more
            have hlenA : (opsL L n ++ [mg more]).length = n + 1 := by rw [List.length_append, opsL_len (by rw [HLL.out]; exact hn)]; rfl
            have ht2z : (t2.size : Int) ≤ 3000 := by
              have h1 := nm_len t2
              rw [ht2l] at h1
              have h2 := tiny_recs _ 0 (by rw [hlenA]; omega) hall
              rw [hlenA] at h2
              omega
            have hpa := parse_all (tiny_fit hall) (by rw [hlenA]; omega)
            have hua := used_all (tiny_fit hall) (by rw [hlenA]; omega)
            have hrec2 := fun w' => recover_any t2 (by omega) w'
            unfold RecTo at hrec2
            have hrn2 : recov (opsL L n ++ [mg more]) = (apply RR (mg more)).1 := by rw [← HRR.out]; exact run_snoc _ _ _
            rw [ht2l, hpa.1, hua, List.take_length, ht2, hrn2] at hrec2
            have hmc := fun w' => manage_any more w'
            have hnm1 := mg_nm more
            rw [← HTL.out] at hta
            obtain ⟨k, nm, a, b, dr, dl, dc, dg, cm, cc, up, hmg⟩ := mg_any more
            rw [ht2l.symm.trans ht2l] at ht2l
            have hta2 := hta.2
            rw [hmg] at hmc hnm1 hrec2
            have hta1 := hta.1
            rw [hmg] at hta1
            have hap3 := fun w' => append_any t (by omega) k nm a b dr dl dc dg cm cc up (by simp only at hnm1; omega) w'
            unfold AppTo at hap3
            rw [← hmg, hta.1, hta.2, ht2] at hap3
            dsimp only [manC] at hmc hnm1
            have MGC := Lib.hid hmc
            have hnm : (nm.size : Int) ≤ 1000000000 := by omega
            have APC := Lib.hid hap3
            obtain ⟨r', er, hap⟩ : ∃ r' er, apply RR ⟨k, nm, a, b, ⟨dr, dl, dc, dg⟩, ⟨cm, cc, up⟩⟩ = (r', er) := ⟨_, _, rfl⟩
            have HAP := Lib.hid hap
            rw [hap] at hrec2
            dsimp only at hrec2
            have HREC2 := Lib.hid hrec2
            have hvr : VR r' := by
              have := vr_apply ⟨k, nm, a, b, ⟨dr, dl, dc, dg⟩, ⟨cm, cc, up⟩⟩ HVRR.out
              rw [hap] at this
              exact this
            have HVR := Lib.hid hvr
            clear hta ht2 ht2l hall hlenA hpa hua hrec2 hrn2 hmc hnm1 hmg hta1 hta2 hap3 hap hvr
            rcases Nat.eq_zero_or_pos n with hn0 | hn0
            · subst hn0
              have ht0 : t.toList = [] := by rw [ByteArray.toList_eq, HTL.out]; exact rfl
              have ht1 : t.toList.isEmpty = true := by rw [ht0]; decide
              have ht3 : (!t.toList.isEmpty) = false := by rw [ht0]; rfl
              clear ht0
              refine wp_region_quiet_below (by kernel_rfl) (by kernel_rfl) ?_
              repeat (go_big_quiet_step (first | (go_at_call 15; exact cS.out _ _)))
              refine wpQuiet_nil ?_
              intro w7 hw'
              obtain ⟨⟨dq, osq⟩, hw''⟩ := hw'
              have h7 : Held w6 w7 := by rw [hw'']; exact below_regrown _ dq osq
              clear hw'' ht1 ht3
              clear k0 k1 k2 k3 cS HG5
              have M7 := Lib.hid (M5.out.keep h7)
              have HR7 := Lib.hid (HR5.out.held h7)
              clear M5 HR5 h7
              go_wp2_with fail
              refine (MGC.out _).mono ?_
              rintro e w8 ⟨rfl, h8⟩
              go_wp2_with fail
              refine (APC.out _).mono ?_
              rintro e wz ⟨rfl, h9⟩
              have M8 := Lib.hid (M7.out.keep (((Held.refl w7).step h8).step h9))
              have HP : Hid (On1 wz B1 m1 e1 B2 m2 e2 RR) := Lib.hid ⟨HR7.out.held (((Held.refl w7).step h8).step h9), HCP.out, HVRR.out⟩
              have HOR := Lib.hid HP.out.reg
              clear M7 HR7 h8 h9
              obtain ⟨⟨d0, d1⟩, ⟨df0, df1⟩, dlt⟩ := M8.out.box2 2 rfl
              go_wp2
              have HC := Lib.hid (fun w' (q : Held wz w') => And.intro (q.cell d0) (q.cell d1))
              have MB0 := Lib.hid ((M8.out.alloc' (b := wz.heap.size) rfl #[.slice none 0 0, .slice none 0 0] 37).drew)
              go_cut [21, 22] from 149 to 155 (fun v5 v6 wx => ∃ b21 C1 i1 f1 C2 i2 f2, v5 = .pointer (some ⟨b21, 0, none⟩) ∧ v6 = .int .i64 er ∧ Mem w wx [.row 3 1 inN w.heap.size (.slice (some ⟨ge, 0, none⟩) len1 cp8) (E), .row 37 2 rvF w.heap.size (.slice (some ⟨rg, 0, none⟩) (len1 + 1) cp9) (G), .box b17 #[.slice B1 m1 e1, .slice B2 m2 e2] 37, .box b21 #[.slice C1 i1 f1, .slice C2 i2 f2] 37] ∧ Caps C1 i1 f1 C2 i2 f2 ∧ RegR wx C1 i1 C2 i2 r' ∧ RegR wx B1 m1 B2 m2 RR)
              case first =>
                go_region_held3 (fun w' => w'.cell? ⟨b17, 0, none⟩ = some (.slice B1 m1 e1) ∧ w'.cell? ⟨b17, 1, none⟩ = some (.slice B2 m2 e2))
                  (first | exact HC.out _ (Held.refl _).drew | exact HC.out _ ((Held.refl wz).alloc _).drew | exact Hid.out (by assumption))
                  (first
                    | (go_at_call 13; refine (MGC.out _).mono ?_; rintro e w4 ⟨rfl, h4⟩; first | (have k4 : Held wz w4 := (Held.refl wz).drew.step h4; have M4 := Lib.hid (M8.out.drew.keep h4); have kM := Lib.hid (HC.out w4 k4); have kN := Lib.hid (HC.out (w4.alloc (.cells #[.slice none 0 0, .slice none 0 0] 37)) (k4.alloc _)); have MC4 := Lib.hid (M4.out.alloc' (b := w4.heap.size) rfl #[.slice none 0 0, .slice none 0 0] 37)) | (have k4 : Held wz w4 := ((Held.refl wz).alloc _).drew.step h4; have MB4 := Lib.hid (MB0.out.keep h4); have kM := Lib.hid (HC.out w4 k4)))
                    | (go_at_call 12; refine (apply_any B1 m1 e1 B2 m2 e2 RR k nm a b dr dl dc dg cm cc up _ (HP.out.reg.held k4) hbn1 hbn2 HP.out.nm hnm).mono ?_; rintro e w5 ⟨C1, i1, f1, C2, i2, f2, rfl, h5, hR, hcp⟩; rw [HAP.out] at hR ⊢; simp only at hR ⊢; have HB := Lib.hid hcp; have kz := Lib.hid (HC.out w5 (k4.step h5)); have M5 := MB4.out.keep h5; obtain ⟨⟨z0, z1⟩, ⟨zf0, zf1⟩, zlt⟩ := M5.box2 3 rfl; have M6 := M5.put 3 rfl 0 (.slice C1 i1 f1); have MX := Lib.hid (M6.put 3 rfl 1 (.slice C2 i2 f2)); have HRX := Lib.hid ((hR.putSlice z0 (.slice C1 i1 f1)).putSlice (M6.cell 3 rfl 1 rfl) (.slice C2 i2 f2)); have HORX := Lib.hid (((HOR.out.held (k4.step h5)).putSlice z0 (.slice C1 i1 f1)).putSlice (M6.cell 3 rfl 1 rfl) (.slice C2 i2 f2)); have ky := Lib.hid (HC.out _ (((k4.step h5).set (p := ⟨wz.heap.size, 0, none⟩) (Nat.le_refl _) (.slice C1 i1 f1)).set (p := ⟨wz.heap.size, 1, none⟩) (Nat.le_refl _) (.slice C2 i2 f2))))
                    | (go_at_call 12; refine (apply_any B1 m1 e1 B2 m2 e2 RR k nm a b dr dl dc dg cm cc up _ (HP.out.reg.held k4) hbn1 hbn2 HP.out.nm hnm).mono ?_; rintro e w5 ⟨C1, i1, f1, C2, i2, f2, rfl, h5, hR, hcp⟩; rw [HAP.out] at hR ⊢; simp only at hR ⊢; have HB := Lib.hid hcp; have kz := Lib.hid (HC.out w5 (k4.step h5)); have ky := Lib.hid (HC.out (w5.alloc (.cells #[.slice C1 i1 f1, .slice C2 i2 f2] 37)) ((k4.step h5).alloc _)); have kx := Lib.hid (HC.out (w5.alloc (.cells #[.slice none 0 0, .slice none 0 0] 37)) ((k4.step h5).alloc _)); have MX := Lib.hid ((M4.out.keep h5).alloc #[.slice C1 i1 f1, .slice C2 i2 f2] 37); have HRX := Lib.hid (hR.held ((Held.refl w5).alloc (.cells #[.slice C1 i1 f1, .slice C2 i2 f2] 37))); have HORX := Lib.hid (HOR.out.held ((k4.step h5).alloc (.cells #[.slice C1 i1 f1, .slice C2 i2 f2] 37))))
                    | (go_at_call 12; refine (apply_any B1 m1 e1 B2 m2 e2 RR k nm a b dr dl dc dg cm cc up _ (HP.out.reg.held (k4.alloc _)) hbn1 hbn2 HP.out.nm hnm).mono ?_; rintro e w5 ⟨C1, i1, f1, C2, i2, f2, rfl, h5, hR, hcp⟩; rw [HAP.out] at hR ⊢; simp only at hR ⊢; have HB := Lib.hid hcp; have kz := Lib.hid (HC.out w5 ((k4.alloc _).step h5)); have M5 := MC4.out.keep h5; obtain ⟨⟨z0, z1⟩, ⟨zf0, zf1⟩, zlt⟩ := M5.box2 3 rfl; have M6 := M5.put 3 rfl 0 (.slice C1 i1 f1); have MX := Lib.hid (M6.put 3 rfl 1 (.slice C2 i2 f2)); have HRX := Lib.hid ((hR.putSlice z0 (.slice C1 i1 f1)).putSlice (M6.cell 3 rfl 1 rfl) (.slice C2 i2 f2)); have HORX := Lib.hid (((HOR.out.held ((k4.alloc _).step h5)).putSlice z0 (.slice C1 i1 f1)).putSlice (M6.cell 3 rfl 1 rfl) (.slice C2 i2 f2)); have ky := Lib.hid (HC.out _ ((((k4.alloc _).step h5).set (p := ⟨w4.heap.size, 0, none⟩) k4.le (.slice C1 i1 f1)).set (p := ⟨w4.heap.size, 1, none⟩) k4.le (.slice C2 i2 f2)))))
                all_goals
                  go_wp2
                  go_meet
                  case rel => exact ⟨_, C1, i1, f1, C2, i2, f2, rfl, rfl, MX.out, HB.out, HRX.out, HORX.out⟩
              case rest =>
                obtain ⟨b21, C1, i1, f1, C2, i2, f2, rfl, rfl, hM, hcp, hR, hO2⟩ := hcut
                have M9 := Lib.hid hM
                have HRC := Lib.hid hR
                have HRB := Lib.hid hO2
                clear hM hcp hR hO2 MB0 HC d0 d1 df0 df1 dlt M8 HP HOR
                obtain ⟨⟨d0, d1⟩, ⟨df0, df1⟩, dlt⟩ := M9.out.box2 2 rfl
                obtain ⟨⟨g0, g1⟩, ⟨gf0, gf1⟩, glt⟩ := M9.out.box2 3 rfl
                by_cases he : er = 0
                · subst he
                  go_wp2_with fail
                  refine (HREC2.out _).mono ?_
                  rintro e w10 ⟨D1, i3, f3, D2, i4, f4, rfl, h10, hR, hcp⟩
                  have hcn1 : (i3 : Int) ≤ 1000000 := by have := hR.hs.1; have := HVR.out.hl; omega
                  have hcn2 : (i4 : Int) ≤ 1000000 := by have := hR.gs.1; have := HVR.out.gl; omega
                  have M10 := Lib.hid ((M9.out.keep h10).alloc' (b := w10.heap.size) rfl #[.slice D1 i3 f3, .slice D2 i4 f4] 37)
                  have HSA := Lib.hid (same_ref_any D1 i3 f3 D2 i4 f4 C1 i1 f1 C2 i2 f2 r' r' _ (hR.held ((Held.refl w10).alloc (.cells #[.slice D1 i3 f3, .slice D2 i4 f4] 37))) (HRC.out.held (((Held.refl _).step h10).alloc (.cells #[.slice D1 i3 f3, .slice D2 i4 f4] 37))) hcn1 hcn2)
                  rw [sameR_yes (r := r') rfl] at HSA
                  have heq : (t2.toList == t2.toList) = true := by simp
                  clear h10 hR hcp d0 d1 df0 df1 dlt g0 g1 gf0 gf1 glt
                  obtain ⟨⟨g0, g1⟩, ⟨gf0, gf1⟩, glt⟩ := M10.out.box2 3 rfl
                  obtain ⟨⟨q0, q1⟩, ⟨qf0, qf1⟩, qlt⟩ := M10.out.box2 4 rfl
                  go_wp2_with fail
                  refine HSA.out.mono ?_
                  rintro e w11 ⟨rfl, h11⟩
                  go_wp2_with fail
                  refine (HAW.out _).mono ?_
                  rintro e w12 ⟨rfl, h12⟩
                  go_wp2
                  go_ret
                  exact ⟨rfl, (M10.out.held.step h11).step h12⟩
                · have hrr : r' = RR := by
                    have := apply_errI HAP.out he
                    rw [HAP.out] at this
                    injection this
                  have heb : (er != 0) = true := by simp [he]
                  have hb1 : (m1 : Int) ≤ 1000000 := by have := HRB.out.hs.1; have := HVRR.out.hl; omega
                  have hb2 : (m2 : Int) ≤ 1000000 := by have := HRB.out.gs.1; have := HVRR.out.gl; omega
                  have MP1 := M9.out.put 3 rfl 0 (.slice B1 m1 e1)
                  have p1 := MP1.cell 3 rfl 1 rfl
                  have MP := Lib.hid (MP1.put 3 rfl 1 (.slice B2 m2 e2))
                  have HRP := Lib.hid ((HRB.out.putSlice g0 (.slice B1 m1 e1)).putSlice p1 (.slice B2 m2 e2))
                  clear he MP1 p1
                  subst hrr
                  go_wp2_with fail
                  refine (HREC2.out _).mono ?_
                  rintro e w10 ⟨D1, i3, f3, D2, i4, f4, rfl, h10, hR, hcp⟩
                  have hcn1 : (i3 : Int) ≤ 1000000 := by have := hR.hs.1; have := HVR.out.hl; omega
                  have hcn2 : (i4 : Int) ≤ 1000000 := by have := hR.gs.1; have := HVR.out.gl; omega
                  have M10 := Lib.hid ((MP.out.keep h10).alloc' (b := w10.heap.size) rfl #[.slice D1 i3 f3, .slice D2 i4 f4] 37)
                  have HSA := Lib.hid (same_ref_any D1 i3 f3 D2 i4 f4 B1 m1 e1 B2 m2 e2 r' r' _ (hR.held ((Held.refl w10).alloc (.cells #[.slice D1 i3 f3, .slice D2 i4 f4] 37))) (HRP.out.held (((Held.refl _).step h10).alloc (.cells #[.slice D1 i3 f3, .slice D2 i4 f4] 37))) hcn1 hcn2)
                  rw [sameR_yes (r := r') rfl] at HSA
                  have heq : (t2.toList == t2.toList) = true := by simp
                  clear h10 hR hcp d0 d1 df0 df1 dlt g0 g1 gf0 gf1 glt
                  obtain ⟨⟨g0, g1⟩, ⟨gf0, gf1⟩, glt⟩ := M10.out.box2 3 rfl
                  obtain ⟨⟨q0, q1⟩, ⟨qf0, qf1⟩, qlt⟩ := M10.out.box2 4 rfl
                  go_wp2_with fail
                  refine HSA.out.mono ?_
                  rintro e w11 ⟨rfl, h11⟩
                  go_wp2_with fail
                  refine (HAW.out _).mono ?_
                  rintro e w12 ⟨rfl, h12⟩
                  go_wp2
                  go_ret
                  exact ⟨rfl, (M10.out.held.step h11).step h12⟩
            · obtain ⟨m, rfl⟩ : ∃ m, n = m + 1 := ⟨n - 1, by omega⟩
              obtain ⟨ge', z', hga', _, _, hz', hzc⟩ := M5.out.slot 0 rfl inN_len (by decide) (k := m) (by rw [HLP.out.el]; omega)
              injection hga' with hga'
              injection hga' with hga'
              subst hga'
              have hze : z' = ((endL L (m + 1) : Nat) : Int) := by rw [HLP.out.e m (by omega)] at hz'; injection hz' with e; exact e.symm
              have z0 := (hzc 0 (by decide)).2 _ rfl
              rw [hze, Nat.add_zero, Nat.mul_one] at z0
              have hem := endL_mono (L := L) hn
              have hsz9 := HSZ.out
              obtain ⟨en9, hen9⟩ : ∃ en9, endL L (m + 1) = en9 := ⟨_, rfl⟩
              have ht5 := HT.out
              rw [hen9] at z0 ht5 hem
              have ht6 : (t.toList != (s.extract 0 en9).toList) = false := by rw [ht5]; simp
              have ht7 : (t.toList == (s.extract 0 en9).toList) = true := by rw [ht5]; simp
              have hen10 : (en9 : Int) ≤ s.size := by omega
              have hen11 : ¬ (en9 : Int) < 0 := by omega
              have k4 := cell_regrown z0
              have hm0 : ((m : Int) + 1 == 0) = false := by simp; omega
              have hm1 : decide ((0 : Int) < (m : Int) + 1) = true := decide_eq_true (by omega)
              have hm2 : ((m : Int) + 1) - 1 = m := by omega
              have hm3 : (((m + 1 : Nat)) : Int) = (m : Int) + 1 := by omega
              clear hz' hzc hze hsz9 hen9 ht5 hem z0
              refine wp_region_quiet_below (by kernel_rfl) (by kernel_rfl) ?_
              repeat (go_big_quiet_step (first | (go_at_call 15; exact cS.out _ _)))
              refine wpQuiet_nil ?_
              intro w7 hw'
              obtain ⟨⟨dq, osq⟩, hw''⟩ := hw'
              have h7 : Held w6 w7 := by rw [hw'']; exact below_regrown _ dq osq
              clear hw'' hen10 hen11 hm0 hm1 hm2 hm3
              clear k0 k1 k2 k3 cS HG5
              have M7 := Lib.hid (M5.out.keep h7)
              have HR7 := Lib.hid (HR5.out.held h7)
              clear M5 HR5 h7
              go_wp2_with fail
              refine (MGC.out _).mono ?_
              rintro e w8 ⟨rfl, h8⟩
              go_wp2_with fail
              refine (APC.out _).mono ?_
              rintro e wz ⟨rfl, h9⟩
              have M8 := Lib.hid (M7.out.keep (((Held.refl w7).step h8).step h9))
              have HP : Hid (On1 wz B1 m1 e1 B2 m2 e2 RR) := Lib.hid ⟨HR7.out.held (((Held.refl w7).step h8).step h9), HCP.out, HVRR.out⟩
              have HOR := Lib.hid HP.out.reg
              clear M7 HR7 h8 h9
              obtain ⟨⟨d0, d1⟩, ⟨df0, df1⟩, dlt⟩ := M8.out.box2 2 rfl
              go_wp2
              have HC := Lib.hid (fun w' (q : Held wz w') => And.intro (q.cell d0) (q.cell d1))
              have MB0 := Lib.hid ((M8.out.alloc' (b := wz.heap.size) rfl #[.slice none 0 0, .slice none 0 0] 37).drew)
              go_cut [21, 22] from 149 to 155 (fun v5 v6 wx => ∃ b21 C1 i1 f1 C2 i2 f2, v5 = .pointer (some ⟨b21, 0, none⟩) ∧ v6 = .int .i64 er ∧ Mem w wx [.row 3 1 inN w.heap.size (.slice (some ⟨ge, 0, none⟩) len1 cp8) (E), .row 37 2 rvF w.heap.size (.slice (some ⟨rg, 0, none⟩) (len1 + 1) cp9) (G), .box b17 #[.slice B1 m1 e1, .slice B2 m2 e2] 37, .box b21 #[.slice C1 i1 f1, .slice C2 i2 f2] 37] ∧ Caps C1 i1 f1 C2 i2 f2 ∧ RegR wx C1 i1 C2 i2 r' ∧ RegR wx B1 m1 B2 m2 RR)
              case first =>
                go_region_held3 (fun w' => w'.cell? ⟨b17, 0, none⟩ = some (.slice B1 m1 e1) ∧ w'.cell? ⟨b17, 1, none⟩ = some (.slice B2 m2 e2))
                  (first | exact HC.out _ (Held.refl _).drew | exact HC.out _ ((Held.refl wz).alloc _).drew | exact Hid.out (by assumption))
                  (first
                    | (go_at_call 13; refine (MGC.out _).mono ?_; rintro e w4 ⟨rfl, h4⟩; first | (have k4 : Held wz w4 := (Held.refl wz).drew.step h4; have M4 := Lib.hid (M8.out.drew.keep h4); have kM := Lib.hid (HC.out w4 k4); have kN := Lib.hid (HC.out (w4.alloc (.cells #[.slice none 0 0, .slice none 0 0] 37)) (k4.alloc _)); have MC4 := Lib.hid (M4.out.alloc' (b := w4.heap.size) rfl #[.slice none 0 0, .slice none 0 0] 37)) | (have k4 : Held wz w4 := ((Held.refl wz).alloc _).drew.step h4; have MB4 := Lib.hid (MB0.out.keep h4); have kM := Lib.hid (HC.out w4 k4)))
                    | (go_at_call 12; refine (apply_any B1 m1 e1 B2 m2 e2 RR k nm a b dr dl dc dg cm cc up _ (HP.out.reg.held k4) hbn1 hbn2 HP.out.nm hnm).mono ?_; rintro e w5 ⟨C1, i1, f1, C2, i2, f2, rfl, h5, hR, hcp⟩; rw [HAP.out] at hR ⊢; simp only at hR ⊢; have HB := Lib.hid hcp; have kz := Lib.hid (HC.out w5 (k4.step h5)); have M5 := MB4.out.keep h5; obtain ⟨⟨z0, z1⟩, ⟨zf0, zf1⟩, zlt⟩ := M5.box2 3 rfl; have M6 := M5.put 3 rfl 0 (.slice C1 i1 f1); have MX := Lib.hid (M6.put 3 rfl 1 (.slice C2 i2 f2)); have HRX := Lib.hid ((hR.putSlice z0 (.slice C1 i1 f1)).putSlice (M6.cell 3 rfl 1 rfl) (.slice C2 i2 f2)); have HORX := Lib.hid (((HOR.out.held (k4.step h5)).putSlice z0 (.slice C1 i1 f1)).putSlice (M6.cell 3 rfl 1 rfl) (.slice C2 i2 f2)); have ky := Lib.hid (HC.out _ (((k4.step h5).set (p := ⟨wz.heap.size, 0, none⟩) (Nat.le_refl _) (.slice C1 i1 f1)).set (p := ⟨wz.heap.size, 1, none⟩) (Nat.le_refl _) (.slice C2 i2 f2))))
                    | (go_at_call 12; refine (apply_any B1 m1 e1 B2 m2 e2 RR k nm a b dr dl dc dg cm cc up _ (HP.out.reg.held k4) hbn1 hbn2 HP.out.nm hnm).mono ?_; rintro e w5 ⟨C1, i1, f1, C2, i2, f2, rfl, h5, hR, hcp⟩; rw [HAP.out] at hR ⊢; simp only at hR ⊢; have HB := Lib.hid hcp; have kz := Lib.hid (HC.out w5 (k4.step h5)); have ky := Lib.hid (HC.out (w5.alloc (.cells #[.slice C1 i1 f1, .slice C2 i2 f2] 37)) ((k4.step h5).alloc _)); have kx := Lib.hid (HC.out (w5.alloc (.cells #[.slice none 0 0, .slice none 0 0] 37)) ((k4.step h5).alloc _)); have MX := Lib.hid ((M4.out.keep h5).alloc #[.slice C1 i1 f1, .slice C2 i2 f2] 37); have HRX := Lib.hid (hR.held ((Held.refl w5).alloc (.cells #[.slice C1 i1 f1, .slice C2 i2 f2] 37))); have HORX := Lib.hid (HOR.out.held ((k4.step h5).alloc (.cells #[.slice C1 i1 f1, .slice C2 i2 f2] 37))))
                    | (go_at_call 12; refine (apply_any B1 m1 e1 B2 m2 e2 RR k nm a b dr dl dc dg cm cc up _ (HP.out.reg.held (k4.alloc _)) hbn1 hbn2 HP.out.nm hnm).mono ?_; rintro e w5 ⟨C1, i1, f1, C2, i2, f2, rfl, h5, hR, hcp⟩; rw [HAP.out] at hR ⊢; simp only at hR ⊢; have HB := Lib.hid hcp; have kz := Lib.hid (HC.out w5 ((k4.alloc _).step h5)); have M5 := MC4.out.keep h5; obtain ⟨⟨z0, z1⟩, ⟨zf0, zf1⟩, zlt⟩ := M5.box2 3 rfl; have M6 := M5.put 3 rfl 0 (.slice C1 i1 f1); have MX := Lib.hid (M6.put 3 rfl 1 (.slice C2 i2 f2)); have HRX := Lib.hid ((hR.putSlice z0 (.slice C1 i1 f1)).putSlice (M6.cell 3 rfl 1 rfl) (.slice C2 i2 f2)); have HORX := Lib.hid (((HOR.out.held ((k4.alloc _).step h5)).putSlice z0 (.slice C1 i1 f1)).putSlice (M6.cell 3 rfl 1 rfl) (.slice C2 i2 f2)); have ky := Lib.hid (HC.out _ ((((k4.alloc _).step h5).set (p := ⟨w4.heap.size, 0, none⟩) k4.le (.slice C1 i1 f1)).set (p := ⟨w4.heap.size, 1, none⟩) k4.le (.slice C2 i2 f2)))))
                all_goals
                  go_wp2
                  go_meet
                  case rel => exact ⟨_, C1, i1, f1, C2, i2, f2, rfl, rfl, MX.out, HB.out, HRX.out, HORX.out⟩
              case rest =>
                obtain ⟨b21, C1, i1, f1, C2, i2, f2, rfl, rfl, hM, hcp, hR, hO2⟩ := hcut
                have M9 := Lib.hid hM
                have HRC := Lib.hid hR
                have HRB := Lib.hid hO2
                clear hM hcp hR hO2 MB0 HC d0 d1 df0 df1 dlt M8 HP HOR
                obtain ⟨⟨d0, d1⟩, ⟨df0, df1⟩, dlt⟩ := M9.out.box2 2 rfl
                obtain ⟨⟨g0, g1⟩, ⟨gf0, gf1⟩, glt⟩ := M9.out.box2 3 rfl
                by_cases he : er = 0
                · subst he
                  go_wp2_with fail
                  refine (HREC2.out _).mono ?_
                  rintro e w10 ⟨D1, i3, f3, D2, i4, f4, rfl, h10, hR, hcp⟩
                  have hcn1 : (i3 : Int) ≤ 1000000 := by have := hR.hs.1; have := HVR.out.hl; omega
                  have hcn2 : (i4 : Int) ≤ 1000000 := by have := hR.gs.1; have := HVR.out.gl; omega
                  have M10 := Lib.hid ((M9.out.keep h10).alloc' (b := w10.heap.size) rfl #[.slice D1 i3 f3, .slice D2 i4 f4] 37)
                  have HSA := Lib.hid (same_ref_any D1 i3 f3 D2 i4 f4 C1 i1 f1 C2 i2 f2 r' r' _ (hR.held ((Held.refl w10).alloc (.cells #[.slice D1 i3 f3, .slice D2 i4 f4] 37))) (HRC.out.held (((Held.refl _).step h10).alloc (.cells #[.slice D1 i3 f3, .slice D2 i4 f4] 37))) hcn1 hcn2)
                  rw [sameR_yes (r := r') rfl] at HSA
                  have heq : (t2.toList == t2.toList) = true := by simp
                  clear h10 hR hcp d0 d1 df0 df1 dlt g0 g1 gf0 gf1 glt
                  obtain ⟨⟨g0, g1⟩, ⟨gf0, gf1⟩, glt⟩ := M10.out.box2 3 rfl
                  obtain ⟨⟨q0, q1⟩, ⟨qf0, qf1⟩, qlt⟩ := M10.out.box2 4 rfl
                  go_wp2_with fail
                  refine HSA.out.mono ?_
                  rintro e w11 ⟨rfl, h11⟩
                  go_wp2_with fail
                  refine (HAW.out _).mono ?_
                  rintro e w12 ⟨rfl, h12⟩
                  go_wp2
                  go_ret
                  exact ⟨rfl, (M10.out.held.step h11).step h12⟩
                · have hrr : r' = RR := by
                    have := apply_errI HAP.out he
                    rw [HAP.out] at this
                    injection this
                  have heb : (er != 0) = true := by simp [he]
                  have hb1 : (m1 : Int) ≤ 1000000 := by have := HRB.out.hs.1; have := HVRR.out.hl; omega
                  have hb2 : (m2 : Int) ≤ 1000000 := by have := HRB.out.gs.1; have := HVRR.out.gl; omega
                  have MP1 := M9.out.put 3 rfl 0 (.slice B1 m1 e1)
                  have p1 := MP1.cell 3 rfl 1 rfl
                  have MP := Lib.hid (MP1.put 3 rfl 1 (.slice B2 m2 e2))
                  have HRP := Lib.hid ((HRB.out.putSlice g0 (.slice B1 m1 e1)).putSlice p1 (.slice B2 m2 e2))
                  clear he MP1 p1
                  subst hrr
                  go_wp2_with fail
                  refine (HREC2.out _).mono ?_
                  rintro e w10 ⟨D1, i3, f3, D2, i4, f4, rfl, h10, hR, hcp⟩
                  have hcn1 : (i3 : Int) ≤ 1000000 := by have := hR.hs.1; have := HVR.out.hl; omega
                  have hcn2 : (i4 : Int) ≤ 1000000 := by have := hR.gs.1; have := HVR.out.gl; omega
                  have M10 := Lib.hid ((MP.out.keep h10).alloc' (b := w10.heap.size) rfl #[.slice D1 i3 f3, .slice D2 i4 f4] 37)
                  have HSA := Lib.hid (same_ref_any D1 i3 f3 D2 i4 f4 B1 m1 e1 B2 m2 e2 r' r' _ (hR.held ((Held.refl w10).alloc (.cells #[.slice D1 i3 f3, .slice D2 i4 f4] 37))) (HRP.out.held (((Held.refl _).step h10).alloc (.cells #[.slice D1 i3 f3, .slice D2 i4 f4] 37))) hcn1 hcn2)
                  rw [sameR_yes (r := r') rfl] at HSA
                  have heq : (t2.toList == t2.toList) = true := by simp
                  clear h10 hR hcp d0 d1 df0 df1 dlt g0 g1 gf0 gf1 glt
                  obtain ⟨⟨g0, g1⟩, ⟨gf0, gf1⟩, glt⟩ := M10.out.box2 3 rfl
                  obtain ⟨⟨q0, q1⟩, ⟨qf0, qf1⟩, qlt⟩ := M10.out.box2 4 rfl
                  go_wp2_with fail
                  refine HSA.out.mono ?_
                  rintro e w11 ⟨rfl, h11⟩
                  go_wp2_with fail
                  refine (HAW.out _).mono ?_
                  rintro e w12 ⟨rfl, h12⟩
                  go_wp2
                  go_ret
                  exact ⟨rfl, (M10.out.held.step h11).step h12⟩
        · have HX1 : Hid (n < len1 → at_ < endL L (n + 1)) := Lib.hid fun h => absurd h (by omega)
          have hd : decide ((n : Int) < len1) = false := decide_eq_false hlt2
          have hd2 : decide (n < len1) = false := decide_eq_false (by omega)
          clear x0 x1
          have HF := Lib.hid (parse_cut (L := opsL L len1) (opsL_tiny L len1) (by rw [opsL_len HLP.out.le]; omega) (at_ := at_) (n := n) (by rw [opsL_len HLP.out.le]; exact hn) (by rw [opsL_take hn]; exact HN0.out) (by rw [opsL_len HLP.out.le]; intro h; rw [opsL_take (by omega)]; exact HX1.out h) (by have := HSZ.out; unfold endL at this; rw [← this]; exact hatb))
          have hpl := HF.out
          rw [opsL_take hn] at hpl
          obtain ⟨t, ht⟩ : ∃ t : ByteArray, s.extract 0 (endL L n) = t := ⟨_, rfl⟩
          have htl : t.data.toList = recs 0 (opsL L n) := by
            rw [← ht, str_take HLP.out.s]
            have := recs_split (opsL L len1) n
            rw [opsL_take hn] at this
            rw [this]
            exact List.take_left' rfl
          have hex : (s.extract 0 at_).data.toList = (recs 0 (opsL L len1)).take at_ := by rw [str_take HLP.out.s]
          have hrec := fun w' => recover_any (s.extract 0 at_) (by rw [ByteArray.size_extract]; omega) w'
          unfold RecTo at hrec
          have htt : (⟨(((recs 0 (opsL L len1)).take at_).take (recs 0 (opsL L n)).length).toArray⟩ : ByteArray) = t := by
            apply ba_ext
            rw [htl, List.take_take, Nat.min_eq_left (by have := HN0.out; unfold endL at this; exact this)]
            have := recs_split (opsL L len1) n
            rw [opsL_take hn] at this
            simp only
            rw [this]
            exact List.take_left' rfl
          rw [hex, hpl.1, hpl.2, htt] at hrec
          have HREC := Lib.hid hrec
          have HT := Lib.hid ht
          have HTL := Lib.hid htl
          have htz : (t.size : Int) ≤ 2500 := by
            have h1 := nm_len t
            rw [htl] at h1
            have h2 := endL_mono (L := L) hn
            have h3 := HSZ.out
            unfold endL at h2 h3
            omega
          clear HF hpl ht htl hex hrec htt
          go_wp2_with fail
          refine (HREC.out _).mono ?_
          rintro e w5 ⟨B1, m1, e1, B2, m2, e2, rfl, h5, hR, hcp⟩
          have HR5 := Lib.hid (hR.held ((Held.refl w5).alloc (.cells #[.slice B1 m1 e1, .slice B2 m2 e2] 37)))
          have HCP := Lib.hid hcp
          have hbn1 : (m1 : Int) ≤ 1000000 := by have := hR.hs.1; have := (vr_recov (opsL L n)).hl; omega
          have hbn2 : (m2 : Int) ≤ 1000000 := by have := hR.gs.1; have := (vr_recov (opsL L n)).gl; omega
          have M5 := Lib.hid ((M3.out.keep (HK.out.step h5)).alloc' (b := w5.heap.size) rfl #[.slice B1 m1 e1, .slice B2 m2 e2] 37)
          have HG5 := Lib.hid (HRG.out.held ((HK.out.step h5).alloc (.cells #[.slice B1 m1 e1, .slice B2 m2 e2] 37)))
          clear h5 hR hcp HREC
          obtain ⟨w6, hw6⟩ : ∃ w6, w5.alloc (.cells #[.slice B1 m1 e1, .slice B2 m2 e2] 37) = w6 := ⟨_, rfl⟩
          obtain ⟨b17, hb17⟩ : ∃ b17, w5.heap.size = b17 := ⟨_, rfl⟩
          have HW6 := Lib.hid hw6
          have HB17 := Lib.hid hb17
          clear hw6 hb17
          go_wp2_with fail
          rw [HW6.out, HB17.out]
          rw [HW6.out, HB17.out] at M5
          rw [HW6.out] at HR5 HG5
          obtain ⟨⟨a0, a1⟩, _, alt⟩ := M5.out.box2 2 rfl
          obtain ⟨rg', y, hrg, _, _, hy, hyc⟩ := M5.out.slot 1 rfl rvF_len (by decide) (k := n) (by rw [HLP.out.g]; omega)
          injection hrg with hrg
          injection hrg with hrg
          subst hrg
          have HY := Lib.hid (HG5.out n y hy)
          have u0 := (hyc 0 (by decide)).2 _ rfl
          have u1 := (hyc 1 (by decide)).2 _ rfl
          rw [Nat.add_zero] at u0
          obtain ⟨D1, d1n, d1c, D2, d2n, d2c⟩ := y
          dsimp only at u0 u1
          have k0 := cell_regrown a0
          have k1 := cell_regrown a1
          have k2 := cell_regrown u0
          have k3 := cell_regrown u1
          have cS := Lib.hid fun dd os => Calls.regrown_of (d := dd) (os := os) (same_ref_any B1 m1 e1 B2 m2 e2 D1 d1n d1c D2 d2n d2c (recov (opsL L n)) (recov (opsL L n)) (grow (redrawn w6 dd) os) (HR5.out.held (below_regrown w6 dd os)) (HY.out.on.reg.held (below_regrown w6 dd os)) hbn1 hbn2)
          rw [sameR_yes (r := recov (opsL L n)) rfl] at cS
          clear hy hyc a0 a1 u0 u1 HY
          obtain ⟨RR, hRR⟩ : ∃ RR, recov (opsL L n) = RR := ⟨_, rfl⟩
          have HRR : Is (recov (opsL L n)) RR := ⟨hRR⟩
          have HVRR : Hid (VR RR) := by rw [← hRR]; exact Lib.hid (vr_recov _)
          rw [hRR] at HR5
          clear hRR
          have hta := tiny_app (opsL_tiny L n) (mg_tiny more) (by rw [opsL_len (by rw [HLL.out]; exact hn)]; omega)
          obtain ⟨t2, ht2⟩ : ∃ t2 : ByteArray, (⟨(recs 0 (opsL L n ++ [mg more])).toArray⟩ : ByteArray) = t2 := ⟨_, rfl⟩
          have ht2l : t2.data.toList = recs 0 (opsL L n ++ [mg more]) := by rw [← ht2]
          have hall : ∀ o ∈ opsL L n ++ [mg more], Tiny o := by
            intro o ho
            rcases List.mem_append.1 ho with ho | ho
            · exact opsL_tiny L n o ho
            · simp at ho; subst ho; exact mg_tiny more
          have hlenA : (opsL L n ++ [mg more]).length = n + 1 := by rw [List.length_append, opsL_len (by rw [HLL.out]; exact hn)]; rfl
          have ht2z : (t2.size : Int) ≤ 3000 := by
            have h1 := nm_len t2
            rw [ht2l] at h1
            have h2 := tiny_recs _ 0 (by rw [hlenA]; omega) hall
            rw [hlenA] at h2
            omega
          have hpa := parse_all (tiny_fit hall) (by rw [hlenA]; omega)
          have hua := used_all (tiny_fit hall) (by rw [hlenA]; omega)
          have hrec2 := fun w' => recover_any t2 (by omega) w'
          unfold RecTo at hrec2
          have hrn2 : recov (opsL L n ++ [mg more]) = (apply RR (mg more)).1 := by rw [← HRR.out]; exact run_snoc _ _ _
          rw [ht2l, hpa.1, hua, List.take_length, ht2, hrn2] at hrec2
          have hmc := fun w' => manage_any more w'
          have hnm1 := mg_nm more
          rw [← HTL.out] at hta
          obtain ⟨k, nm, a, b, dr, dl, dc, dg, cm, cc, up, hmg⟩ := mg_any more
          rw [ht2l.symm.trans ht2l] at ht2l
          have hta2 := hta.2
          rw [hmg] at hmc hnm1 hrec2
          have hta1 := hta.1
          rw [hmg] at hta1
          have hap3 := fun w' => append_any t (by omega) k nm a b dr dl dc dg cm cc up (by simp only at hnm1; omega) w'
          unfold AppTo at hap3
          rw [← hmg, hta.1, hta.2, ht2] at hap3
          dsimp only [manC] at hmc hnm1
          have MGC := Lib.hid hmc
          have hnm : (nm.size : Int) ≤ 1000000000 := by omega
          have APC := Lib.hid hap3
          obtain ⟨r', er, hap⟩ : ∃ r' er, apply RR ⟨k, nm, a, b, ⟨dr, dl, dc, dg⟩, ⟨cm, cc, up⟩⟩ = (r', er) := ⟨_, _, rfl⟩
          have HAP := Lib.hid hap
          rw [hap] at hrec2
          dsimp only at hrec2
          have HREC2 := Lib.hid hrec2
          have hvr : VR r' := by
            have := vr_apply ⟨k, nm, a, b, ⟨dr, dl, dc, dg⟩, ⟨cm, cc, up⟩⟩ HVRR.out
            rw [hap] at this
            exact this
          have HVR := Lib.hid hvr
          clear hta ht2 ht2l hall hlenA hpa hua hrec2 hrn2 hmc hnm1 hmg hta1 hta2 hap3 hap hvr
          rcases Nat.eq_zero_or_pos n with hn0 | hn0
          · subst hn0
            have ht0 : t.toList = [] := by rw [ByteArray.toList_eq, HTL.out]; exact rfl
            have ht1 : t.toList.isEmpty = true := by rw [ht0]; decide
            have ht3 : (!t.toList.isEmpty) = false := by rw [ht0]; rfl
            clear ht0
            refine wp_region_quiet_below (by kernel_rfl) (by kernel_rfl) ?_
            repeat (go_big_quiet_step (first | (go_at_call 15; exact cS.out _ _)))
            refine wpQuiet_nil ?_
            intro w7 hw'
            obtain ⟨⟨dq, osq⟩, hw''⟩ := hw'
            have h7 : Held w6 w7 := by rw [hw'']; exact below_regrown _ dq osq
            clear hw'' ht1 ht3
            clear k0 k1 k2 k3 cS HG5
            have M7 := Lib.hid (M5.out.keep h7)
            have HR7 := Lib.hid (HR5.out.held h7)
            clear M5 HR5 h7
            go_wp2_with fail
            refine (MGC.out _).mono ?_
            rintro e w8 ⟨rfl, h8⟩
            go_wp2_with fail
            refine (APC.out _).mono ?_
            rintro e wz ⟨rfl, h9⟩
            have M8 := Lib.hid (M7.out.keep (((Held.refl w7).step h8).step h9))
            have HP : Hid (On1 wz B1 m1 e1 B2 m2 e2 RR) := Lib.hid ⟨HR7.out.held (((Held.refl w7).step h8).step h9), HCP.out, HVRR.out⟩
            have HOR := Lib.hid HP.out.reg
            clear M7 HR7 h8 h9
            obtain ⟨⟨d0, d1⟩, ⟨df0, df1⟩, dlt⟩ := M8.out.box2 2 rfl
            go_wp2
            have HC := Lib.hid (fun w' (q : Held wz w') => And.intro (q.cell d0) (q.cell d1))
            have MB0 := Lib.hid ((M8.out.alloc' (b := wz.heap.size) rfl #[.slice none 0 0, .slice none 0 0] 37).drew)
            go_cut [21, 22] from 149 to 155 (fun v5 v6 wx => ∃ b21 C1 i1 f1 C2 i2 f2, v5 = .pointer (some ⟨b21, 0, none⟩) ∧ v6 = .int .i64 er ∧ Mem w wx [.row 3 1 inN w.heap.size (.slice A8 len1 cp8) (E), .row 37 2 rvF w.heap.size (.slice (some ⟨rg, 0, none⟩) (len1 + 1) cp9) (G), .box b17 #[.slice B1 m1 e1, .slice B2 m2 e2] 37, .box b21 #[.slice C1 i1 f1, .slice C2 i2 f2] 37] ∧ Caps C1 i1 f1 C2 i2 f2 ∧ RegR wx C1 i1 C2 i2 r' ∧ RegR wx B1 m1 B2 m2 RR)
            case first =>
              go_region_held3 (fun w' => w'.cell? ⟨b17, 0, none⟩ = some (.slice B1 m1 e1) ∧ w'.cell? ⟨b17, 1, none⟩ = some (.slice B2 m2 e2))
                (first | exact HC.out _ (Held.refl _).drew | exact HC.out _ ((Held.refl wz).alloc _).drew | exact Hid.out (by assumption))
                (first
                  | (go_at_call 13; refine (MGC.out _).mono ?_; rintro e w4 ⟨rfl, h4⟩; first | (have k4 : Held wz w4 := (Held.refl wz).drew.step h4; have M4 := Lib.hid (M8.out.drew.keep h4); have kM := Lib.hid (HC.out w4 k4); have kN := Lib.hid (HC.out (w4.alloc (.cells #[.slice none 0 0, .slice none 0 0] 37)) (k4.alloc _)); have MC4 := Lib.hid (M4.out.alloc' (b := w4.heap.size) rfl #[.slice none 0 0, .slice none 0 0] 37)) | (have k4 : Held wz w4 := ((Held.refl wz).alloc _).drew.step h4; have MB4 := Lib.hid (MB0.out.keep h4); have kM := Lib.hid (HC.out w4 k4)))
                  | (go_at_call 12; refine (apply_any B1 m1 e1 B2 m2 e2 RR k nm a b dr dl dc dg cm cc up _ (HP.out.reg.held k4) hbn1 hbn2 HP.out.nm hnm).mono ?_; rintro e w5 ⟨C1, i1, f1, C2, i2, f2, rfl, h5, hR, hcp⟩; rw [HAP.out] at hR ⊢; simp only at hR ⊢; have HB := Lib.hid hcp; have kz := Lib.hid (HC.out w5 (k4.step h5)); have M5 := MB4.out.keep h5; obtain ⟨⟨z0, z1⟩, ⟨zf0, zf1⟩, zlt⟩ := M5.box2 3 rfl; have M6 := M5.put 3 rfl 0 (.slice C1 i1 f1); have MX := Lib.hid (M6.put 3 rfl 1 (.slice C2 i2 f2)); have HRX := Lib.hid ((hR.putSlice z0 (.slice C1 i1 f1)).putSlice (M6.cell 3 rfl 1 rfl) (.slice C2 i2 f2)); have HORX := Lib.hid (((HOR.out.held (k4.step h5)).putSlice z0 (.slice C1 i1 f1)).putSlice (M6.cell 3 rfl 1 rfl) (.slice C2 i2 f2)); have ky := Lib.hid (HC.out _ (((k4.step h5).set (p := ⟨wz.heap.size, 0, none⟩) (Nat.le_refl _) (.slice C1 i1 f1)).set (p := ⟨wz.heap.size, 1, none⟩) (Nat.le_refl _) (.slice C2 i2 f2))))
                  | (go_at_call 12; refine (apply_any B1 m1 e1 B2 m2 e2 RR k nm a b dr dl dc dg cm cc up _ (HP.out.reg.held k4) hbn1 hbn2 HP.out.nm hnm).mono ?_; rintro e w5 ⟨C1, i1, f1, C2, i2, f2, rfl, h5, hR, hcp⟩; rw [HAP.out] at hR ⊢; simp only at hR ⊢; have HB := Lib.hid hcp; have kz := Lib.hid (HC.out w5 (k4.step h5)); have ky := Lib.hid (HC.out (w5.alloc (.cells #[.slice C1 i1 f1, .slice C2 i2 f2] 37)) ((k4.step h5).alloc _)); have kx := Lib.hid (HC.out (w5.alloc (.cells #[.slice none 0 0, .slice none 0 0] 37)) ((k4.step h5).alloc _)); have MX := Lib.hid ((M4.out.keep h5).alloc #[.slice C1 i1 f1, .slice C2 i2 f2] 37); have HRX := Lib.hid (hR.held ((Held.refl w5).alloc (.cells #[.slice C1 i1 f1, .slice C2 i2 f2] 37))); have HORX := Lib.hid (HOR.out.held ((k4.step h5).alloc (.cells #[.slice C1 i1 f1, .slice C2 i2 f2] 37))))
                  | (go_at_call 12; refine (apply_any B1 m1 e1 B2 m2 e2 RR k nm a b dr dl dc dg cm cc up _ (HP.out.reg.held (k4.alloc _)) hbn1 hbn2 HP.out.nm hnm).mono ?_; rintro e w5 ⟨C1, i1, f1, C2, i2, f2, rfl, h5, hR, hcp⟩; rw [HAP.out] at hR ⊢; simp only at hR ⊢; have HB := Lib.hid hcp; have kz := Lib.hid (HC.out w5 ((k4.alloc _).step h5)); have M5 := MC4.out.keep h5; obtain ⟨⟨z0, z1⟩, ⟨zf0, zf1⟩, zlt⟩ := M5.box2 3 rfl; have M6 := M5.put 3 rfl 0 (.slice C1 i1 f1); have MX := Lib.hid (M6.put 3 rfl 1 (.slice C2 i2 f2)); have HRX := Lib.hid ((hR.putSlice z0 (.slice C1 i1 f1)).putSlice (M6.cell 3 rfl 1 rfl) (.slice C2 i2 f2)); have HORX := Lib.hid (((HOR.out.held ((k4.alloc _).step h5)).putSlice z0 (.slice C1 i1 f1)).putSlice (M6.cell 3 rfl 1 rfl) (.slice C2 i2 f2)); have ky := Lib.hid (HC.out _ ((((k4.alloc _).step h5).set (p := ⟨w4.heap.size, 0, none⟩) k4.le (.slice C1 i1 f1)).set (p := ⟨w4.heap.size, 1, none⟩) k4.le (.slice C2 i2 f2)))))
              all_goals
                go_wp2
                go_meet
                case rel => exact ⟨_, C1, i1, f1, C2, i2, f2, rfl, rfl, MX.out, HB.out, HRX.out, HORX.out⟩
            case rest =>
              obtain ⟨b21, C1, i1, f1, C2, i2, f2, rfl, rfl, hM, hcp, hR, hO2⟩ := hcut
              have M9 := Lib.hid hM
              have HRC := Lib.hid hR
              have HRB := Lib.hid hO2
              clear hM hcp hR hO2 MB0 HC d0 d1 df0 df1 dlt M8 HP HOR
              obtain ⟨⟨d0, d1⟩, ⟨df0, df1⟩, dlt⟩ := M9.out.box2 2 rfl
              obtain ⟨⟨g0, g1⟩, ⟨gf0, gf1⟩, glt⟩ := M9.out.box2 3 rfl
              by_cases he : er = 0
              · subst he
                go_wp2_with fail
                refine (HREC2.out _).mono ?_
                rintro e w10 ⟨D1, i3, f3, D2, i4, f4, rfl, h10, hR, hcp⟩
                have hcn1 : (i3 : Int) ≤ 1000000 := by have := hR.hs.1; have := HVR.out.hl; omega
                have hcn2 : (i4 : Int) ≤ 1000000 := by have := hR.gs.1; have := HVR.out.gl; omega
                have M10 := Lib.hid ((M9.out.keep h10).alloc' (b := w10.heap.size) rfl #[.slice D1 i3 f3, .slice D2 i4 f4] 37)
                have HSA := Lib.hid (same_ref_any D1 i3 f3 D2 i4 f4 C1 i1 f1 C2 i2 f2 r' r' _ (hR.held ((Held.refl w10).alloc (.cells #[.slice D1 i3 f3, .slice D2 i4 f4] 37))) (HRC.out.held (((Held.refl _).step h10).alloc (.cells #[.slice D1 i3 f3, .slice D2 i4 f4] 37))) hcn1 hcn2)
                rw [sameR_yes (r := r') rfl] at HSA
                have heq : (t2.toList == t2.toList) = true := by simp
                clear h10 hR hcp d0 d1 df0 df1 dlt g0 g1 gf0 gf1 glt
                obtain ⟨⟨g0, g1⟩, ⟨gf0, gf1⟩, glt⟩ := M10.out.box2 3 rfl
                obtain ⟨⟨q0, q1⟩, ⟨qf0, qf1⟩, qlt⟩ := M10.out.box2 4 rfl
                go_wp2_with fail
                refine HSA.out.mono ?_
                rintro e w11 ⟨rfl, h11⟩
                go_wp2_with fail
                refine (HAW.out _).mono ?_
                rintro e w12 ⟨rfl, h12⟩
                go_wp2
                go_ret
                exact ⟨rfl, (M10.out.held.step h11).step h12⟩
              · have hrr : r' = RR := by
                  have := apply_errI HAP.out he
                  rw [HAP.out] at this
                  injection this
                have heb : (er != 0) = true := by simp [he]
                have hb1 : (m1 : Int) ≤ 1000000 := by have := HRB.out.hs.1; have := HVRR.out.hl; omega
                have hb2 : (m2 : Int) ≤ 1000000 := by have := HRB.out.gs.1; have := HVRR.out.gl; omega
                have MP1 := M9.out.put 3 rfl 0 (.slice B1 m1 e1)
                have p1 := MP1.cell 3 rfl 1 rfl
                have MP := Lib.hid (MP1.put 3 rfl 1 (.slice B2 m2 e2))
                have HRP := Lib.hid ((HRB.out.putSlice g0 (.slice B1 m1 e1)).putSlice p1 (.slice B2 m2 e2))
                clear he MP1 p1
                subst hrr
                go_wp2_with fail
                refine (HREC2.out _).mono ?_
                rintro e w10 ⟨D1, i3, f3, D2, i4, f4, rfl, h10, hR, hcp⟩
                have hcn1 : (i3 : Int) ≤ 1000000 := by have := hR.hs.1; have := HVR.out.hl; omega
                have hcn2 : (i4 : Int) ≤ 1000000 := by have := hR.gs.1; have := HVR.out.gl; omega
                have M10 := Lib.hid ((MP.out.keep h10).alloc' (b := w10.heap.size) rfl #[.slice D1 i3 f3, .slice D2 i4 f4] 37)
                have HSA := Lib.hid (same_ref_any D1 i3 f3 D2 i4 f4 B1 m1 e1 B2 m2 e2 r' r' _ (hR.held ((Held.refl w10).alloc (.cells #[.slice D1 i3 f3, .slice D2 i4 f4] 37))) (HRP.out.held (((Held.refl _).step h10).alloc (.cells #[.slice D1 i3 f3, .slice D2 i4 f4] 37))) hcn1 hcn2)
                rw [sameR_yes (r := r') rfl] at HSA
                have heq : (t2.toList == t2.toList) = true := by simp
                clear h10 hR hcp d0 d1 df0 df1 dlt g0 g1 gf0 gf1 glt
                obtain ⟨⟨g0, g1⟩, ⟨gf0, gf1⟩, glt⟩ := M10.out.box2 3 rfl
                obtain ⟨⟨q0, q1⟩, ⟨qf0, qf1⟩, qlt⟩ := M10.out.box2 4 rfl
                go_wp2_with fail
                refine HSA.out.mono ?_
                rintro e w11 ⟨rfl, h11⟩
                go_wp2_with fail
                refine (HAW.out _).mono ?_
                rintro e w12 ⟨rfl, h12⟩
                go_wp2
                go_ret
                exact ⟨rfl, (M10.out.held.step h11).step h12⟩
          · obtain ⟨m, rfl⟩ : ∃ m, n = m + 1 := ⟨n - 1, by omega⟩
            obtain ⟨ge', z', hga', _, _, hz', hzc⟩ := M5.out.slot 0 rfl inN_len (by decide) (k := m) (by rw [HLP.out.el]; omega)
            subst hga'
            have hze : z' = ((endL L (m + 1) : Nat) : Int) := by rw [HLP.out.e m (by omega)] at hz'; injection hz' with e; exact e.symm
            have z0 := (hzc 0 (by decide)).2 _ rfl
            rw [hze, Nat.add_zero, Nat.mul_one] at z0
            have hem := endL_mono (L := L) hn
            have hsz9 := HSZ.out
            obtain ⟨en9, hen9⟩ : ∃ en9, endL L (m + 1) = en9 := ⟨_, rfl⟩
            have ht5 := HT.out
            rw [hen9] at z0 ht5 hem
            have ht6 : (t.toList != (s.extract 0 en9).toList) = false := by rw [ht5]; simp
            have ht7 : (t.toList == (s.extract 0 en9).toList) = true := by rw [ht5]; simp
            have hen10 : (en9 : Int) ≤ s.size := by omega
            have hen11 : ¬ (en9 : Int) < 0 := by omega
            have k4 := cell_regrown z0
            have hm0 : ((m : Int) + 1 == 0) = false := by simp; omega
            have hm1 : decide ((0 : Int) < (m : Int) + 1) = true := decide_eq_true (by omega)
            have hm2 : ((m : Int) + 1) - 1 = m := by omega
            have hm3 : (((m + 1 : Nat)) : Int) = (m : Int) + 1 := by omega
            clear hz' hzc hze hsz9 hen9 ht5 hem z0
            refine wp_region_quiet_below (by kernel_rfl) (by kernel_rfl) ?_
            repeat (go_big_quiet_step (first | (go_at_call 15; exact cS.out _ _)))
            refine wpQuiet_nil ?_
            intro w7 hw'
            obtain ⟨⟨dq, osq⟩, hw''⟩ := hw'
            have h7 : Held w6 w7 := by rw [hw'']; exact below_regrown _ dq osq
            clear hw'' hen10 hen11 hm0 hm1 hm2 hm3
            clear k0 k1 k2 k3 cS HG5
            have M7 := Lib.hid (M5.out.keep h7)
            have HR7 := Lib.hid (HR5.out.held h7)
            clear M5 HR5 h7
            go_wp2_with fail
            refine (MGC.out _).mono ?_
            rintro e w8 ⟨rfl, h8⟩
            go_wp2_with fail
            refine (APC.out _).mono ?_
            rintro e wz ⟨rfl, h9⟩
            have M8 := Lib.hid (M7.out.keep (((Held.refl w7).step h8).step h9))
            have HP : Hid (On1 wz B1 m1 e1 B2 m2 e2 RR) := Lib.hid ⟨HR7.out.held (((Held.refl w7).step h8).step h9), HCP.out, HVRR.out⟩
            have HOR := Lib.hid HP.out.reg
            clear M7 HR7 h8 h9
            obtain ⟨⟨d0, d1⟩, ⟨df0, df1⟩, dlt⟩ := M8.out.box2 2 rfl
            go_wp2
            have HC := Lib.hid (fun w' (q : Held wz w') => And.intro (q.cell d0) (q.cell d1))
            have MB0 := Lib.hid ((M8.out.alloc' (b := wz.heap.size) rfl #[.slice none 0 0, .slice none 0 0] 37).drew)
            go_cut [21, 22] from 149 to 155 (fun v5 v6 wx => ∃ b21 C1 i1 f1 C2 i2 f2, v5 = .pointer (some ⟨b21, 0, none⟩) ∧ v6 = .int .i64 er ∧ Mem w wx [.row 3 1 inN w.heap.size (.slice (some ⟨ge', 0, none⟩) len1 cp8) (E), .row 37 2 rvF w.heap.size (.slice (some ⟨rg, 0, none⟩) (len1 + 1) cp9) (G), .box b17 #[.slice B1 m1 e1, .slice B2 m2 e2] 37, .box b21 #[.slice C1 i1 f1, .slice C2 i2 f2] 37] ∧ Caps C1 i1 f1 C2 i2 f2 ∧ RegR wx C1 i1 C2 i2 r' ∧ RegR wx B1 m1 B2 m2 RR)
            case first =>
              go_region_held3 (fun w' => w'.cell? ⟨b17, 0, none⟩ = some (.slice B1 m1 e1) ∧ w'.cell? ⟨b17, 1, none⟩ = some (.slice B2 m2 e2))
                (first | exact HC.out _ (Held.refl _).drew | exact HC.out _ ((Held.refl wz).alloc _).drew | exact Hid.out (by assumption))
                (first
                  | (go_at_call 13; refine (MGC.out _).mono ?_; rintro e w4 ⟨rfl, h4⟩; first | (have k4 : Held wz w4 := (Held.refl wz).drew.step h4; have M4 := Lib.hid (M8.out.drew.keep h4); have kM := Lib.hid (HC.out w4 k4); have kN := Lib.hid (HC.out (w4.alloc (.cells #[.slice none 0 0, .slice none 0 0] 37)) (k4.alloc _)); have MC4 := Lib.hid (M4.out.alloc' (b := w4.heap.size) rfl #[.slice none 0 0, .slice none 0 0] 37)) | (have k4 : Held wz w4 := ((Held.refl wz).alloc _).drew.step h4; have MB4 := Lib.hid (MB0.out.keep h4); have kM := Lib.hid (HC.out w4 k4)))
                  | (go_at_call 12; refine (apply_any B1 m1 e1 B2 m2 e2 RR k nm a b dr dl dc dg cm cc up _ (HP.out.reg.held k4) hbn1 hbn2 HP.out.nm hnm).mono ?_; rintro e w5 ⟨C1, i1, f1, C2, i2, f2, rfl, h5, hR, hcp⟩; rw [HAP.out] at hR ⊢; simp only at hR ⊢; have HB := Lib.hid hcp; have kz := Lib.hid (HC.out w5 (k4.step h5)); have M5 := MB4.out.keep h5; obtain ⟨⟨z0, z1⟩, ⟨zf0, zf1⟩, zlt⟩ := M5.box2 3 rfl; have M6 := M5.put 3 rfl 0 (.slice C1 i1 f1); have MX := Lib.hid (M6.put 3 rfl 1 (.slice C2 i2 f2)); have HRX := Lib.hid ((hR.putSlice z0 (.slice C1 i1 f1)).putSlice (M6.cell 3 rfl 1 rfl) (.slice C2 i2 f2)); have HORX := Lib.hid (((HOR.out.held (k4.step h5)).putSlice z0 (.slice C1 i1 f1)).putSlice (M6.cell 3 rfl 1 rfl) (.slice C2 i2 f2)); have ky := Lib.hid (HC.out _ (((k4.step h5).set (p := ⟨wz.heap.size, 0, none⟩) (Nat.le_refl _) (.slice C1 i1 f1)).set (p := ⟨wz.heap.size, 1, none⟩) (Nat.le_refl _) (.slice C2 i2 f2))))
                  | (go_at_call 12; refine (apply_any B1 m1 e1 B2 m2 e2 RR k nm a b dr dl dc dg cm cc up _ (HP.out.reg.held k4) hbn1 hbn2 HP.out.nm hnm).mono ?_; rintro e w5 ⟨C1, i1, f1, C2, i2, f2, rfl, h5, hR, hcp⟩; rw [HAP.out] at hR ⊢; simp only at hR ⊢; have HB := Lib.hid hcp; have kz := Lib.hid (HC.out w5 (k4.step h5)); have ky := Lib.hid (HC.out (w5.alloc (.cells #[.slice C1 i1 f1, .slice C2 i2 f2] 37)) ((k4.step h5).alloc _)); have kx := Lib.hid (HC.out (w5.alloc (.cells #[.slice none 0 0, .slice none 0 0] 37)) ((k4.step h5).alloc _)); have MX := Lib.hid ((M4.out.keep h5).alloc #[.slice C1 i1 f1, .slice C2 i2 f2] 37); have HRX := Lib.hid (hR.held ((Held.refl w5).alloc (.cells #[.slice C1 i1 f1, .slice C2 i2 f2] 37))); have HORX := Lib.hid (HOR.out.held ((k4.step h5).alloc (.cells #[.slice C1 i1 f1, .slice C2 i2 f2] 37))))
                  | (go_at_call 12; refine (apply_any B1 m1 e1 B2 m2 e2 RR k nm a b dr dl dc dg cm cc up _ (HP.out.reg.held (k4.alloc _)) hbn1 hbn2 HP.out.nm hnm).mono ?_; rintro e w5 ⟨C1, i1, f1, C2, i2, f2, rfl, h5, hR, hcp⟩; rw [HAP.out] at hR ⊢; simp only at hR ⊢; have HB := Lib.hid hcp; have kz := Lib.hid (HC.out w5 ((k4.alloc _).step h5)); have M5 := MC4.out.keep h5; obtain ⟨⟨z0, z1⟩, ⟨zf0, zf1⟩, zlt⟩ := M5.box2 3 rfl; have M6 := M5.put 3 rfl 0 (.slice C1 i1 f1); have MX := Lib.hid (M6.put 3 rfl 1 (.slice C2 i2 f2)); have HRX := Lib.hid ((hR.putSlice z0 (.slice C1 i1 f1)).putSlice (M6.cell 3 rfl 1 rfl) (.slice C2 i2 f2)); have HORX := Lib.hid (((HOR.out.held ((k4.alloc _).step h5)).putSlice z0 (.slice C1 i1 f1)).putSlice (M6.cell 3 rfl 1 rfl) (.slice C2 i2 f2)); have ky := Lib.hid (HC.out _ ((((k4.alloc _).step h5).set (p := ⟨w4.heap.size, 0, none⟩) k4.le (.slice C1 i1 f1)).set (p := ⟨w4.heap.size, 1, none⟩) k4.le (.slice C2 i2 f2)))))
              all_goals
                go_wp2
                go_meet
                case rel => exact ⟨_, C1, i1, f1, C2, i2, f2, rfl, rfl, MX.out, HB.out, HRX.out, HORX.out⟩
            case rest =>
              obtain ⟨b21, C1, i1, f1, C2, i2, f2, rfl, rfl, hM, hcp, hR, hO2⟩ := hcut
              have M9 := Lib.hid hM
              have HRC := Lib.hid hR
              have HRB := Lib.hid hO2
              clear hM hcp hR hO2 MB0 HC d0 d1 df0 df1 dlt M8 HP HOR
              obtain ⟨⟨d0, d1⟩, ⟨df0, df1⟩, dlt⟩ := M9.out.box2 2 rfl
              obtain ⟨⟨g0, g1⟩, ⟨gf0, gf1⟩, glt⟩ := M9.out.box2 3 rfl
              by_cases he : er = 0
              · subst he
                go_wp2_with fail
                refine (HREC2.out _).mono ?_
                rintro e w10 ⟨D1, i3, f3, D2, i4, f4, rfl, h10, hR, hcp⟩
                have hcn1 : (i3 : Int) ≤ 1000000 := by have := hR.hs.1; have := HVR.out.hl; omega
                have hcn2 : (i4 : Int) ≤ 1000000 := by have := hR.gs.1; have := HVR.out.gl; omega
                have M10 := Lib.hid ((M9.out.keep h10).alloc' (b := w10.heap.size) rfl #[.slice D1 i3 f3, .slice D2 i4 f4] 37)
                have HSA := Lib.hid (same_ref_any D1 i3 f3 D2 i4 f4 C1 i1 f1 C2 i2 f2 r' r' _ (hR.held ((Held.refl w10).alloc (.cells #[.slice D1 i3 f3, .slice D2 i4 f4] 37))) (HRC.out.held (((Held.refl _).step h10).alloc (.cells #[.slice D1 i3 f3, .slice D2 i4 f4] 37))) hcn1 hcn2)
                rw [sameR_yes (r := r') rfl] at HSA
                have heq : (t2.toList == t2.toList) = true := by simp
                clear h10 hR hcp d0 d1 df0 df1 dlt g0 g1 gf0 gf1 glt
                obtain ⟨⟨g0, g1⟩, ⟨gf0, gf1⟩, glt⟩ := M10.out.box2 3 rfl
                obtain ⟨⟨q0, q1⟩, ⟨qf0, qf1⟩, qlt⟩ := M10.out.box2 4 rfl
                go_wp2_with fail
                refine HSA.out.mono ?_
                rintro e w11 ⟨rfl, h11⟩
                go_wp2_with fail
                refine (HAW.out _).mono ?_
                rintro e w12 ⟨rfl, h12⟩
                go_wp2
                go_ret
                exact ⟨rfl, (M10.out.held.step h11).step h12⟩
              · have hrr : r' = RR := by
                  have := apply_errI HAP.out he
                  rw [HAP.out] at this
                  injection this
                have heb : (er != 0) = true := by simp [he]
                have hb1 : (m1 : Int) ≤ 1000000 := by have := HRB.out.hs.1; have := HVRR.out.hl; omega
                have hb2 : (m2 : Int) ≤ 1000000 := by have := HRB.out.gs.1; have := HVRR.out.gl; omega
                have MP1 := M9.out.put 3 rfl 0 (.slice B1 m1 e1)
                have p1 := MP1.cell 3 rfl 1 rfl
                have MP := Lib.hid (MP1.put 3 rfl 1 (.slice B2 m2 e2))
                have HRP := Lib.hid ((HRB.out.putSlice g0 (.slice B1 m1 e1)).putSlice p1 (.slice B2 m2 e2))
                clear he MP1 p1
                subst hrr
                go_wp2_with fail
                refine (HREC2.out _).mono ?_
                rintro e w10 ⟨D1, i3, f3, D2, i4, f4, rfl, h10, hR, hcp⟩
                have hcn1 : (i3 : Int) ≤ 1000000 := by have := hR.hs.1; have := HVR.out.hl; omega
                have hcn2 : (i4 : Int) ≤ 1000000 := by have := hR.gs.1; have := HVR.out.gl; omega
                have M10 := Lib.hid ((MP.out.keep h10).alloc' (b := w10.heap.size) rfl #[.slice D1 i3 f3, .slice D2 i4 f4] 37)
                have HSA := Lib.hid (same_ref_any D1 i3 f3 D2 i4 f4 B1 m1 e1 B2 m2 e2 r' r' _ (hR.held ((Held.refl w10).alloc (.cells #[.slice D1 i3 f3, .slice D2 i4 f4] 37))) (HRP.out.held (((Held.refl _).step h10).alloc (.cells #[.slice D1 i3 f3, .slice D2 i4 f4] 37))) hcn1 hcn2)
                rw [sameR_yes (r := r') rfl] at HSA
                have heq : (t2.toList == t2.toList) = true := by simp
                clear h10 hR hcp d0 d1 df0 df1 dlt g0 g1 gf0 gf1 glt
                obtain ⟨⟨g0, g1⟩, ⟨gf0, gf1⟩, glt⟩ := M10.out.box2 3 rfl
                obtain ⟨⟨q0, q1⟩, ⟨qf0, qf1⟩, qlt⟩ := M10.out.box2 4 rfl
                go_wp2_with fail
                refine HSA.out.mono ?_
                rintro e w11 ⟨rfl, h11⟩
                go_wp2_with fail
                refine (HAW.out _).mono ?_
                rintro e w12 ⟨rfl, h12⟩
                go_wp2
                go_ret
                exact ⟨rfl, (M10.out.held.step h11).step h12⟩
end Jn
end Go.Proofs.Ytmmnanmegdflgaa
