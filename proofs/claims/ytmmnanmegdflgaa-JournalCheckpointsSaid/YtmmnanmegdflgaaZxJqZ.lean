/-
  Contracts: the law JournalCheckpoints (chapter 42).
-/
import Derived.Test.YtmmnanmegdflgaaZxJqD
import Derived.Test.YtmmnanmegdflgaaZ23
set_option linter.unusedVariables false
set_option linter.unusedSimpArgs false
set_option maxRecDepth 100000
namespace Go.Proofs.Ytmmnanmegdflgaa
open Go.RowKit Go.BigFrame Go.Sort Go.Lib
namespace Jn
open Ad Adm Law39 Lg Lgc Strs
theorem rx_of {w : World} {A1 A2 : Option Addr} {n1 c1 n2 c2 : Nat} {r : Reg} (h : On1 w A1 n1 c1 A2 n2 c2 r) : RegX w none none ⟨A1, n1, c1, A2, n2, c2⟩ r := ⟨h, Apt.none _ _, Apt.none _ _, Apt.none _ _, Apt.none _ _⟩
theorem mg_grp (n : Int) : (mg n).d.g ≤ 9223372036854775807 := by
  have := (mg_tiny n).ns (mg n).d.g (by simp [nums])
  omega
theorem info_capZ : (Try.prog.info? 25).map (fun i => (i.zero, i.size, i.bytes)) = some (some (.agg #[.int .i64 0, .int .i64 0, .bool false]), 3, 24) := by kernel_rfl
theorem ups_at {H : List Cap} {k : Nat} {c : Cap} (h : H[k]? = some c) : (H.take (k + 1)).map upC = (H.take k).map upC ++ [upC c] := by
  obtain ⟨hk, rfl⟩ := List.getElem?_eq_some_iff.1 h
  rw [List.take_succ_eq_append_getElem hk, List.map_append]; rfl
set_option maxHeartbeats 8000000 in
theorem checkpoints_any (o1 : Option Addr) (len1 cap1 : Nat) (z1 : List Int) (w : World) (h1 : Rw.IsRow .i64 w o1 len1 cap1 z1) :
    Calls Try.prog 8 #[.slice o1 len1 cap1] w fun e w' => e = .returned (.bool true) ∧ Held w w' := by
  have HAW := Lib.hid awake_any
  obtain ⟨L, hL, hlen⟩ := nums_in h1
  have HL := Lib.hid hL
  clear h1 hL
  by_cases h60 : (60 : Int) < len1
  · go_enter Try.func8, Try.ntmps8
    go_wp2_with fail
    refine (HAW.out _).mono ?_
    rintro e w1 ⟨rfl, h⟩
    go_wp2
    go_ret
    exact ⟨rfl, h⟩
  have M0 := Lib.hid ((Mem.start w).alloc' (b := w.heap.size) rfl #[.slice none 0 0, .slice none 0 0] 37)
  obtain ⟨b3, hb3⟩ : ∃ b3, w.heap.size = b3 := ⟨_, rfl⟩
  go_enter Try.func8, Try.ntmps8
  go_wp2
  rw [hb3] at M0
  clear hb3
  go_loopw [4] (fun i wr => ∃ (j : Nat) (A1 : Option Addr) (n1 c1 : Nat) (A2 : Option Addr) (n2 c2 : Nat) (R : Reg), i = .int .i64 j ∧ j ≤ len1 ∧ Mem w wr [.box b3 #[.slice A1 n1 c1, .slice A2 n2 c2] 37] ∧ On1 wr A1 n1 c1 A2 n2 c2 R ∧ Grp R) (fun i _ => len1 - (intOf i).toNat)
  case atStart => exact ⟨0, none, 0, 0, none, 0, 0, ⟨[], []⟩, rfl, Nat.zero_le _, M0.out, on1_zero _, (fun p hp => by simp at hp)⟩
  case round =>
    obtain ⟨i, A1, n1, c1, A2, n2, c2, R, rfl, hi, hM, hO, hgr⟩ := hrel
    have HGR := Lib.hid hgr
    have M3 := Lib.hid hM
    have HO := Lib.hid hO
    obtain ⟨hn1, hn2⟩ := hO.hn
    clear hM hO M0 hgr
    obtain ⟨⟨d0, d1⟩, ⟨df0, df1⟩, dlt⟩ := M3.out.box2 0 rfl
    by_cases hlt : (i : Int) < len1
    · obtain ⟨lb, off, z, rfl, hlb, hz, y0⟩ := in_at HL.out M3.out.held (k := i) (by omega)
      have i0 : ¬ (i : Int) < 0 := by omega
      have hnm1 := mg_nm z
      obtain ⟨k, nm, a, b, dr, dl, dc, dg, cm, cc, up, hmg⟩ := mg_any z
      have hmc := fun w' => manage_any z w'
      rw [hmg] at hmc hnm1
      dsimp only [manC] at hmc hnm1
      have MGC := Lib.hid hmc
      have hnm : (nm.size : Int) ≤ 1000000000 := by omega
      obtain ⟨r', er, hap⟩ : ∃ r' er, apply R ⟨k, nm, a, b, ⟨dr, dl, dc, dg⟩, ⟨cm, cc, up⟩⟩ = (r', er) := ⟨_, _, rfl⟩
      have HAP := Lib.hid hap
      have hvr : VR r' := by
        have := vr_apply ⟨k, nm, a, b, ⟨dr, dl, dc, dg⟩, ⟨cm, cc, up⟩⟩ HO.out.v
        rw [hap] at this
        exact this
      have HVR := Lib.hid hvr
      have hgr2 : Grp r' := by
        have := grp_apply (o := ⟨k, nm, a, b, ⟨dr, dl, dc, dg⟩, ⟨cm, cc, up⟩⟩) HGR.out (by have := mg_grp z; rw [hmg] at this; exact this)
        rw [hap] at this
        exact this
      have HGR2 := Lib.hid hgr2
      have HZ := Lib.hid hz
      clear hmc hnm1 hmg hap hvr hz hgr2
      have HOR := Lib.hid HO.out.reg
      have HC := Lib.hid (fun w' (q : Held wr w') => And.intro (q.cell d0) (And.intro (q.cell d1) (q.cell y0)))
      have MB0 := Lib.hid ((M3.out.alloc' (b := wr.heap.size) rfl #[.slice none 0 0, .slice none 0 0] 37).drew)
      go_wp2
      go_cut [5, 6] from 24 to 33 (fun v5 v6 wx => ∃ b5 B1 m1 e1 B2 m2 e2, v5 = .pointer (some ⟨b5, 0, none⟩) ∧ v6 = .int .i64 er ∧ Mem w wx [.box b3 #[.slice A1 n1 c1, .slice A2 n2 c2] 37, .box b5 #[.slice B1 m1 e1, .slice B2 m2 e2] 37] ∧ Caps B1 m1 e1 B2 m2 e2 ∧ RegR wx B1 m1 B2 m2 r' ∧ RegR wx A1 n1 A2 n2 R)
      case first =>
        go_region_held3 (fun w' => w'.cell? ⟨b3, 0, none⟩ = some (.slice A1 n1 c1) ∧ w'.cell? ⟨b3, 1, none⟩ = some (.slice A2 n2 c2) ∧ w'.cell? ⟨lb, off + i, none⟩ = some (.int .i64 z))
          (first | exact HC.out _ (Held.refl _).drew | exact HC.out _ ((Held.refl wr).alloc _).drew | exact Hid.out (by assumption))
          (first
            | (go_at_call 13; refine (MGC.out _).mono ?_; rintro e w4 ⟨rfl, h4⟩; first | (have k4 : Held wr w4 := (Held.refl wr).drew.step h4; have M4 := Lib.hid (M3.out.drew.keep h4); have kM := Lib.hid (HC.out w4 k4); have kN := Lib.hid (HC.out (w4.alloc (.cells #[.slice none 0 0, .slice none 0 0] 37)) (k4.alloc _)); have MC4 := Lib.hid (M4.out.alloc' (b := w4.heap.size) rfl #[.slice none 0 0, .slice none 0 0] 37)) | (have k4 : Held wr w4 := ((Held.refl wr).alloc _).drew.step h4; have MB4 := Lib.hid (MB0.out.keep h4); have kM := Lib.hid (HC.out w4 k4)))
            | (go_at_call 12; refine (apply_any A1 n1 c1 A2 n2 c2 R k nm a b dr dl dc dg cm cc up _ (HO.out.reg.held k4) hn1 hn2 HO.out.nm hnm).mono ?_; rintro e w5 ⟨B1, m1, e1, B2, m2, e2, rfl, h5, hR, hcp⟩; rw [HAP.out] at hR ⊢; simp only at hR ⊢; have HB := Lib.hid hcp; have kz := Lib.hid (HC.out w5 (k4.step h5)); have M5 := MB4.out.keep h5; obtain ⟨⟨z0, z1⟩, ⟨zf0, zf1⟩, zlt⟩ := M5.box2 1 rfl; have M6 := M5.put 1 rfl 0 (.slice B1 m1 e1); have MX := Lib.hid (M6.put 1 rfl 1 (.slice B2 m2 e2)); have HRX := Lib.hid ((hR.putSlice z0 (.slice B1 m1 e1)).putSlice (M6.cell 1 rfl 1 rfl) (.slice B2 m2 e2)); have HORX := Lib.hid (((HOR.out.held (k4.step h5)).putSlice z0 (.slice B1 m1 e1)).putSlice (M6.cell 1 rfl 1 rfl) (.slice B2 m2 e2)); have ky := Lib.hid (HC.out _ (((k4.step h5).set (p := ⟨wr.heap.size, 0, none⟩) (Nat.le_refl _) (.slice B1 m1 e1)).set (p := ⟨wr.heap.size, 1, none⟩) (Nat.le_refl _) (.slice B2 m2 e2))))
            | (go_at_call 12; refine (apply_any A1 n1 c1 A2 n2 c2 R k nm a b dr dl dc dg cm cc up _ (HO.out.reg.held k4) hn1 hn2 HO.out.nm hnm).mono ?_; rintro e w5 ⟨B1, m1, e1, B2, m2, e2, rfl, h5, hR, hcp⟩; rw [HAP.out] at hR ⊢; simp only at hR ⊢; have HB := Lib.hid hcp; have kz := Lib.hid (HC.out w5 (k4.step h5)); have ky := Lib.hid (HC.out (w5.alloc (.cells #[.slice B1 m1 e1, .slice B2 m2 e2] 37)) ((k4.step h5).alloc _)); have kx := Lib.hid (HC.out (w5.alloc (.cells #[.slice none 0 0, .slice none 0 0] 37)) ((k4.step h5).alloc _)); have MX := Lib.hid ((M4.out.keep h5).alloc #[.slice B1 m1 e1, .slice B2 m2 e2] 37); have HRX := Lib.hid (hR.held ((Held.refl w5).alloc (.cells #[.slice B1 m1 e1, .slice B2 m2 e2] 37))); have HORX := Lib.hid (HOR.out.held ((k4.step h5).alloc (.cells #[.slice B1 m1 e1, .slice B2 m2 e2] 37))))
            | (go_at_call 12; refine (apply_any A1 n1 c1 A2 n2 c2 R k nm a b dr dl dc dg cm cc up _ (HO.out.reg.held (k4.alloc _)) hn1 hn2 HO.out.nm hnm).mono ?_; rintro e w5 ⟨B1, m1, e1, B2, m2, e2, rfl, h5, hR, hcp⟩; rw [HAP.out] at hR ⊢; simp only at hR ⊢; have HB := Lib.hid hcp; have kz := Lib.hid (HC.out w5 ((k4.alloc _).step h5)); have M5 := MC4.out.keep h5; obtain ⟨⟨z0, z1⟩, ⟨zf0, zf1⟩, zlt⟩ := M5.box2 1 rfl; have M6 := M5.put 1 rfl 0 (.slice B1 m1 e1); have MX := Lib.hid (M6.put 1 rfl 1 (.slice B2 m2 e2)); have HRX := Lib.hid ((hR.putSlice z0 (.slice B1 m1 e1)).putSlice (M6.cell 1 rfl 1 rfl) (.slice B2 m2 e2)); have HORX := Lib.hid (((HOR.out.held ((k4.alloc _).step h5)).putSlice z0 (.slice B1 m1 e1)).putSlice (M6.cell 1 rfl 1 rfl) (.slice B2 m2 e2)); have ky := Lib.hid (HC.out _ ((((k4.alloc _).step h5).set (p := ⟨w4.heap.size, 0, none⟩) k4.le (.slice B1 m1 e1)).set (p := ⟨w4.heap.size, 1, none⟩) k4.le (.slice B2 m2 e2)))))
        all_goals
          go_wp2
          go_meet
          case rel => exact ⟨_, B1, m1, e1, B2, m2, e2, rfl, rfl, MX.out, HB.out, HRX.out, HORX.out⟩
      case rest =>
        obtain ⟨b5, B1, m1, e1, B2, m2, e2, rfl, rfl, hM, hcp, hR, hO2⟩ := hcut
        have M8 := Lib.hid hM
        have HRB := Lib.hid hR
        have HXC := Lib.hid hcp
        clear hM hcp hR hO2 MB0 HC d0 d1 df0 df1 dlt y0 M3 HO
        obtain ⟨⟨d0, d1⟩, ⟨df0, df1⟩, dlt⟩ := M8.out.box2 0 rfl
        obtain ⟨⟨g0, g1⟩, ⟨gf0, gf1⟩, glt⟩ := M8.out.box2 1 rfl
        go_wp2
        have MY := M8.out.put 0 rfl 0 (.slice B1 m1 e1)
        have HY := HRB.out.putSlice d0 (.slice B1 m1 e1)
        have MZ := MY.put 0 rfl 1 (.slice B2 m2 e2)
        have HZ2 := HY.putSlice (MY.cell 0 rfl 1 rfl) (.slice B2 m2 e2)
        go_roundw
        case rel => exact ⟨i + 1, B1, m1, e1, B2, m2, e2, r', by go_num, by omega, MZ.take 1, ⟨HZ2, HXC.out, HVR.out⟩, HGR2.out⟩
        case measure => (simp [intOf]) <;> omega
    · obtain ⟨wA, rfl⟩ : ∃ wA : World, wA = wr := ⟨_, rfl⟩
      have hl6 : (n1 : Int) ≤ 6 := by have := HO.out.reg.hs.1; have := HO.out.v.hl; omega
      have CE := Lib.hid (checkpoint_any A1 n1 c1 A2 n2 c2 R wA HO.out.reg hn1 hn2 HO.out.nm HGR.out)
      unfold ChkTo at CE
      obtain ⟨ok, hok⟩ : ∃ ok, chkOk R = ok := ⟨_, rfl⟩
      have HOK : Is (chkOk R) ok := ⟨hok⟩
      obtain ⟨s, hs⟩ : ∃ s : ByteArray, (⟨(chk R).toArray⟩ : ByteArray) = s := ⟨_, rfl⟩
      have HS : Is s.data.toList (chk R) := ⟨by rw [← hs]⟩
      rw [hok, hs] at CE
      clear hok hs
      go_wp2_with fail
      refine CE.out.mono ?_
      rintro e w4 ⟨rfl, h4⟩
      have HX4 := Lib.hid (rx_of (HO.out.held h4))
      have M4a := Lib.hid (M3.out.keep h4)
      have M4 := Lib.hid ((M4a.out.alloc' (b := w4.heap.size) rfl #[.slice none 0 0, .slice A2 n2 c2] 37).nilRow (e := 25) (s := 3) (f := capC))
      have HX5 := Lib.hid (HX4.out.held ((Held.refl w4).alloc (.cells #[.slice none 0 0, .slice A2 n2 c2] 37)))
      have HV := Lib.hid HO.out.v
      have HHN : Is R.hs.length n1 := ⟨HO.out.reg.hs.1⟩
      clear h4 d0 d1 df0 df1 dlt M3 CE HO HX4
      obtain ⟨⟨d0, d1⟩, ⟨df0, df1⟩, dlt⟩ := M4a.out.box2 0 rfl
      clear M4a
      obtain ⟨b9, hb9⟩ : ∃ b9, w4.heap.size = b9 := ⟨_, rfl⟩
      go_wp2
      rw [hb9] at M4
      clear hb9
      go_loopw [10] (fun i wr => ∃ (j : Nat) (A5 : Option Addr) (cp5 : Nat), i = .int .i64 j ∧ j ≤ n1 ∧ Mem w wr [.box b3 #[.slice A1 n1 c1, .slice A2 n2 c2] 37, .box b9 #[.slice A5 j cp5, .slice A2 n2 c2] 37, .row 25 3 capC w.heap.size (.slice A5 j cp5) ((R.hs.take j).map upC)] ∧ RegX wr (Value.slice A5 j cp5).ownBlock none ⟨A1, n1, c1, A2, n2, c2⟩ R) (fun i _ => n1 - (intOf i).toNat)
      case atStart => exact ⟨0, none, 0, rfl, Nat.zero_le _, M4.out, HX5.out⟩
      case round =>
        obtain ⟨j, A5, cp5, rfl, hj, hM, hX⟩ := hrel
        have M4 := Lib.hid hM
        have HX := Lib.hid hX
        clear hM hX HX5 d0 d1 df0 df1 dlt
        obtain ⟨⟨d0, d1⟩, ⟨df0, df1⟩, dlt⟩ := M4.out.box2 0 rfl
        obtain ⟨⟨g0, g1⟩, ⟨gf0, gf1⟩, glt⟩ := M4.out.box2 1 rfl
        have HLJ : Is ((R.hs.take j).map upC).length j := ⟨by rw [List.length_map, List.length_take, HHN.out]; omega⟩
        by_cases hlt2 : (j : Int) < n1
        · obtain ⟨cb, off, cm, ck, cu, hAA, lb, hx, x0, x1, x2⟩ := capAt HX.out.on.reg.hs (Held.refl wr) (k := j) (by simp only; omega)
          dsimp only at hAA
          subst hAA
          have HUJ : Is ((R.hs.take (j + 1)).map upC) ((R.hs.take j).map upC ++ [⟨cm, ck, true⟩]) := ⟨ups_at hx⟩
          have j0 : ¬ (j : Int) < 0 := by omega
          have M5 := Lib.hid (M4.out.alloc' (b := wr.heap.size) rfl #[.int .i64 cm, .int .i64 ck, .bool true] 25)
          clear hx
          go_wp2_with (at_builtin; refine Mem.wp_appG (M5.out.skip _) 2 rfl rfl _ _ _ rfl _ 24 Try.underlying34 info_capZ rfl (by decide) capC_len capC_one ⟨cm, ck, true⟩ ⟨wr.heap.size + 1, 0, none⟩ 1 rfl rfl (cells_new _ (by simp) _ _) j HLJ.out (by omega) (by decide) ?_; intro gg cpp w6 M6h hgrow hgb; have M6 := Lib.hid M6h; have HX6 := Lib.hid ((HX.out.held (((Held.refl wr).alloc _).alloc _)).grownE hgrow hgb); clear M6h hgrow hgb; obtain ⟨⟨u0, u1⟩, ⟨uf0, uf1⟩, ult⟩ := M6.out.box2 1 rfl)
          have MY := M6.out.put 1 rfl 0 (.slice (some ⟨gg, 0, none⟩) (j + 1) cpp)
          have HY := HX6.out.put u0 (.slice (some ⟨gg, 0, none⟩) (j + 1) cpp)
          go_roundw
          case rel => exact ⟨j + 1, some ⟨gg, 0, none⟩, cpp, by go_num, by omega, by rw [HUJ.out]; exact MY.take 3, HY⟩
          case measure => (simp [intOf]) <;> omega
        · have hjn : j = n1 := by omega
          have HUA : Is ((R.hs.take j).map upC) (R.hs.map upC) := ⟨by rw [List.take_of_length_le (by rw [HHN.out]; omega)]⟩
          have hgs := HX.out.on.reg.gs
          have hup := (Own.reads capC_len (M4.out.row 2 rfl)).1
          rw [HUA.out] at hup
          have HVA := Lib.hid fun (w' : World) (h : Held wr w') => valid_any A5 j cp5 A2 n2 c2 (R.hs.map upC) R.gs w' (hup.held h) (hgs.held h) (by omega) hn2 HX.out.on.nm
          have HVU : Is (validR ⟨R.hs.map upC, R.gs⟩) ok := ⟨by have := chkOk_eq HV.out HGR.out; rw [HOK.out] at this; exact this.symm⟩
          rw [HVU.out] at HVA
          clear hjn hgs hup
          cases ok
          · have hs0 : s.toList = [] := by rw [ByteArray.toList_eq, HS.out, chk_no HOK.out]
            have hs1 : (!s.toList.isEmpty) = false := by rw [hs0]; rfl
            have hs2 : s.toList.isEmpty = true := by rw [hs0]; rfl
            go_wp2_with fail
            refine (HVA.out _ (Held.refl _)).mono ?_
            rintro e w7 ⟨rfl, h7⟩
            go_wp2_with fail
            refine (HAW.out _).mono ?_
            rintro e w8 ⟨rfl, h8⟩
            go_wp2
            go_ret
            exact ⟨rfl, (M4.out.held.step h7).step h8⟩
          · have hlen := chkL_len HV.out HGR.out
            have hsl : s.data.toList = chkL R := by rw [HS.out, chk_yes HOK.out]
            have hsz : (s.size : Int) ≤ 6000 := by rw [← nm_len, hsl]; omega
            have hfit : ∀ o ∈ chkOps R, Fit o := fun o ho => (chk_sml HV.out HGR.out o ho).fit
            have hrec := fun w' => recover_any s (by omega) w'
            unfold RecTo at hrec
            have hl20 := chkOps_len HV.out
            have hua := used_all hfit (by omega)
            have hsame : recov (chkOps R) = R := by
              have := HOK.out
              rw [chk_same HV.out.valid (by omega)] at this
              exact sameR_iff.1 this
            have htk : ((chkL R).take (used (chkL R))) = chkL R := by
              have : used (chkL R) = (chkL R).length := hua
              rw [this, List.take_length]
            rw [hsl, chk_parse HV.out HGR.out, hsame, htk, ← hsl] at hrec
            have hss : (⟨s.data.toList.toArray⟩ : ByteArray) = s := by simp
            rw [hss] at hrec
            have HREC := Lib.hid hrec
            clear hrec hlen hsl hfit hl20 hua hsame htk hss
            have hgg := HX.out.on.reg
            go_wp2_with fail
            refine (HREC.out _).mono ?_
            rintro e w7 ⟨B1, m1, e1, B2, m2, e2, rfl, h7, hR, hcp⟩
            have hbn1 : (m1 : Int) ≤ 1000000 := by have := hR.hs.1; have := HV.out.hl; omega
            have hbn2 : (m2 : Int) ≤ 1000000 := by have := hR.gs.1; have := HV.out.gl; omega
            have M7 := Lib.hid ((M4.out.keep h7).alloc' (b := w7.heap.size) rfl #[.slice B1 m1 e1, .slice B2 m2 e2] 37)
            have K7 := Lib.hid (((Held.refl wr).step h7).alloc (.cells #[.slice B1 m1 e1, .slice B2 m2 e2] 37))
            have HSA := Lib.hid (same_ref_any B1 m1 e1 B2 m2 e2 A1 n1 c1 A2 n2 c2 R R _ (hR.held ((Held.refl w7).alloc (.cells #[.slice B1 m1 e1, .slice B2 m2 e2] 37))) (hgg.held K7.out) hbn1 hbn2)
            rw [sameR_yes (r := R) rfl] at HSA
            have heq : (s.toList == s.toList) = true := by simp
            clear h7 hR hcp hgg d0 d1 df0 df1 dlt g0 g1 gf0 gf1 glt
            obtain ⟨⟨d0, d1⟩, ⟨df0, df1⟩, dlt⟩ := M7.out.box2 0 rfl
            obtain ⟨⟨q0, q1⟩, ⟨qf0, qf1⟩, qlt⟩ := M7.out.box2 3 rfl
            go_wp2_with fail
            refine HSA.out.mono ?_
            rintro e w8 ⟨rfl, h8⟩
            have M8 := Lib.hid (M7.out.keep h8)
            have K8 := Lib.hid (K7.out.step h8)
            clear d0 d1 df0 df1 dlt q0 q1 qf0 qf1 qlt h8 M7 K7
            obtain ⟨⟨g0, g1⟩, ⟨gf0, gf1⟩, glt⟩ := M8.out.box2 1 rfl
            go_wp2_with fail
            refine (HVA.out _ K8.out).mono ?_
            rintro e w9 ⟨rfl, h9⟩
            go_wp2_with fail
            refine (HAW.out _).mono ?_
            rintro e w10 ⟨rfl, h10⟩
            go_wp2
            go_ret
            exact ⟨rfl, (M8.out.held.step h9).step h10⟩
end Jn
end Go.Proofs.Ytmmnanmegdflgaa
