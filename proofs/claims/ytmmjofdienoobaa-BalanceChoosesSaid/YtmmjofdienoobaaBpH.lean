/-
  BalanceChooses: the walk of the law.
-/
import Derived.Test.YtmmjofdienoobaaBpQ
import Derived.Lib.QuietBelow
set_option linter.unusedVariables false
set_option linter.unusedSimpArgs false
set_option maxRecDepth 100000
namespace Go.Proofs.Ytmmjofdienoobaa
open Go.RowKit Go.BigFrame Go.Sort
namespace Ba
open Ad Adm
theorem hasI_one (x : Int) (k : Int) : hasI [x] k = decide (x = k) := by unfold hasI; simp
set_option maxHeartbeats 4000000 in
theorem chooses_walk (A : Option Addr) (n cap : Nat) (l1 : List Int) (B : Option Addr) (m c : Nat) (l2 : List Int) (x nt : Int) (hx : (Lit.int .i64 x).wf = true) (hnt : (Lit.int .i64 nt).wf = true) (w : World) (h1 : InN w A n cap l1) (h2 : InN w B m c l2) :
    Calls Try.prog 5 #[.slice A n cap, .slice B m c, .int .i64 x, .int .i64 nt] w fun e w' => e = .returned (.bool true) ∧ Held w w' := by
  have HAW := Lib.hid awake_any
  by_cases hout : (n : Int) < 1 ∨ 4 < (n : Int) ∨ 6 < (m : Int)
  · clear h1 h2
    by_cases g1 : (n : Int) < 1
    · go_enter Try.func5, Try.ntmps5
      go_wp2_with (go_at_call 9; refine (HAW.out _).mono ?_; rintro e w2 ⟨rfl, h2⟩)
      go_ret
      exact ⟨rfl, h2⟩
    by_cases g2 : (4 : Int) < n
    · go_enter Try.func5, Try.ntmps5
      go_wp2_with (go_at_call 9; refine (HAW.out _).mono ?_; rintro e w2 ⟨rfl, h2⟩)
      go_ret
      exact ⟨rfl, h2⟩
    have g3 : (6 : Int) < m := by omega
    go_enter Try.func5, Try.ntmps5
    go_wp2_with (go_at_call 9; refine (HAW.out _).mono ?_; rintro e w2 ⟨rfl, h2⟩)
    go_ret
    exact ⟨rfl, h2⟩
  · have g1 : ¬ (n : Int) < 1 := by omega
    have g2 : ¬ (4 : Int) < n := by omega
    have g3 : ¬ (6 : Int) < m := by omega
    have HPR := Lib.hid (fun w' (q : Held w w') => problem_any A n cap B m c l1 l2 w' (h1.1.1.held q) (h2.1.1.held q) (by omega) (by omega))
    obtain ⟨H, hH⟩ : ∃ H, l1.map hostOf = H := ⟨_, rfl⟩
    obtain ⟨D, hD⟩ : ∃ D, l2.map demOf = D := ⟨_, rfl⟩
    have hHl : H.length = n := by rw [← hH, List.length_map]; exact h1.1.1.1
    have hDl : D.length = m := by rw [← hD, List.length_map]; exact h2.1.1.1
    rw [hH, hD] at HPR
    unfold PrTo at HPR
    rw [hHl, hDl] at HPR
    have HHD := Lib.hid (And.intro hHl hDl)
    have bn := Rw.bd_i64 hnt
    have HR1 := Lib.hid (fun w' => Mk.round_any nt ((n : Int) + 1) bn.1 bn.2 (by omega) (by omega) w')
    obtain ⟨y, hy⟩ : ∃ r, Mk.round nt ((n : Int) + 1) = r := ⟨_, rfl⟩
    rw [hy] at HR1
    have HPO := Lib.hid (fun (b : Nat) w' (hs : Sl 1 inC w' (some ⟨b, 0, none⟩) 1 [x]) => show Calls Try.prog 10 #[.slice none 0 0, .slice (some ⟨b, 0, none⟩) 1 1] w' (PrTo [] [demOf x] w') from problem_any none 0 0 (some ⟨b, 0, none⟩) 1 1 [] [x] w' (Sl.nil w' none) hs (by omega) (by omega))
    obtain ⟨d, hd⟩ : ∃ d, demOf x = d := ⟨_, rfl⟩
    rw [hd] at HPO
    have HAS := Lib.hid (fun (A7 : Option Addr) c7 (A8 : Option Addr) c8 w' (q1 : Sl 3 hcC w' A7 n H) (q2 : Sl 4 demC w' A8 m D) => assign_any A7 n c7 A8 m c8 H D w' q1 q2)
    obtain ⟨a, ha⟩ : ∃ a, assign H D = a := ⟨_, rfl⟩
    have HSND := Lib.hid (fun q (h : a = some q) => assign_sound (ha.trans h))
    rw [ha] at HAS
    clear h1 h2 hout hH hD hHl hDl ha hy hd bn hx hnt
    have HCH := Lib.hid (fun (A7 : Option Addr) c7 (A8 : Option Addr) c8 (A9 : Option Addr) n9 c9 (o : List Int) b w' (q1 : Sl 3 hcC w' A7 n H) (q2 : Sl 4 demC w' A8 m D) (q3 : Sl 1 inC w' A9 n9 o) (q4 : Sl 1 inC w' (some ⟨b, 0, none⟩) 1 [y]) => choose_any A7 n c7 A8 m c8 A9 n9 c9 (some ⟨b, 0, none⟩) 1 1 H D o [y] d w' q1 q2 q3 q4 (by omega))
    cases a with
    | none =>
      go_enter Try.func5, Try.ntmps5
      go_wp2_with fail
      refine (HPR.out _ (Held.refl _)).mono ?_
      rintro e w2 ⟨A7, c7, A8, c8, rfl, s7, s8, hc8, _, n8, k2⟩
      have S7 := Lib.hid s7
      have S8 := Lib.hid s8
      clear s7 s8 n8
      go_wp2_with fail
      refine (HPO.out _ _ (sl_one (w := w2) rfl x)).mono ?_
      rintro e w5 ⟨A10, c10, B10, d10, rfl, _, s11, _, _, _, k5⟩
      have S11 : Hid (Sl 4 demC w5 B10 1 [d]) := s11
      have K5 := Lib.hid (((Held.refl w2).alloc (.cells #[.int .i64 x] 3)).step k5)
      clear s11
      go_wp2_with fail
      refine (HAS.out A7 c7 A8 c8 _ (S7.out.held K5.out) (S8.out.held K5.out)).mono ?_
      rintro e w6 ⟨A9, n9, c9, rfl, s9, _, n10, k6⟩
      clear s9 n10
      go_wp2_with (go_at_call 9; refine (HAW.out _).mono ?_; rintro e w7 ⟨rfl, k7⟩)
      go_ret
      exact ⟨rfl, ((k2.step K5.out).step k6).step k7⟩
    | some q =>
      obtain ⟨hps, hql⟩ := HSND.out q rfl
      rw [HHD.out.2] at hql
      have HQL := Lib.hid hql
      have HCE := Lib.hid (choose_yes (d := d) (no := [y]) hps)
      unfold chooseZ at HCE
      rw [HHD.out.1] at HCE
      obtain ⟨Z, hZ⟩ : ∃ Z, D.zip q = Z := ⟨_, rfl⟩
      rw [hZ] at HCE
      have HZ := Lib.hid hZ
      have HZT : Hid (Z.take m = Z) := show _ = _ from List.take_of_length_le (by rw [← hZ, List.length_zip, HHD.out.2]; omega)
      have hzl : Z.length ≤ 6 := by rw [← hZ, List.length_zip, HHD.out.2]; omega
      have HGB := Lib.hid (fun (h : Int) (k : Nat) => (show (gu (Z.take k) h).length ≤ 6 from Nat.le_trans (gu_len _ _) (by rw [List.length_take]; omega)))
      have HGT := Lib.hid (fun (k : Nat) (dd : Dem) (xx h : Int) (e1 : D[k]? = some dd) (e2 : q[k]? = some xx) => gu_take D q k dd xx h e1 e2)
      rw [hZ] at HGT
      have HINV := Lib.hid (choose_inv H Z d [y] n (by rw [HHD.out.1]; exact Nat.le_refl _))
      clear hps hql hZ hzl
      go_enter Try.func5, Try.ntmps5
      go_wp2_with fail
      refine (HPR.out _ (Held.refl _)).mono ?_
      rintro e w2 ⟨A7, c7, A8, c8, rfl, s7, s8, hc8, _, n8, k2⟩
      have S7 := Lib.hid s7
      have S8 := Lib.hid s8
      clear s7 s8 n8
      go_wp2_with fail
      refine (HPO.out _ _ (sl_one (w := w2) rfl x)).mono ?_
      rintro e w5 ⟨A10, c10, B10, d10, rfl, _, s11, _, _, _, k5⟩
      have S11 : Hid (Sl 4 demC w5 B10 1 [d]) := s11
      have K5 := Lib.hid (((Held.refl w2).alloc (.cells #[.int .i64 x] 3)).step k5)
      clear s11
      go_wp2_with fail
      refine (HAS.out A7 c7 A8 c8 _ (S7.out.held K5.out) (S8.out.held K5.out)).mono ?_
      rintro e w6 ⟨A9, n9, c9, rfl, s9, _, n10, k6⟩
      obtain rfl : n9 = m := s9.1.symm.trans HQL.out
      have S9 := Lib.hid (show Sl 1 inC w6 A9 n9 q from s9)
      clear s9 n10
      obtain ⟨b0, o0, dd, rfl, lb0, hdd, x0, x1, x2, x3⟩ := Sl.at4 S11.out k6 (k := 0) (by omega)
      obtain rfl : d = dd := by simpa using hdd
      simp only [Nat.zero_mul, Nat.add_zero] at x0 x1 x2 x3
      have H76 := Lib.hid (S7.out.held (K5.out.step k6))
      have H86 := Lib.hid (S8.out.held (K5.out.step k6))
      have KF := Lib.hid ((k2.step K5.out).step k6)
      have HCC := Lib.hid (fun w' (q : Held w6 w') => And.intro (q.cell x0) (And.intro (q.cell x1) (And.intro (q.cell x2) (q.cell x3))))
      clear hdd
      go_wp2_with (go_at_call 13; refine (HR1.out _).mono ?_; rintro e w7 ⟨rfl, rfl⟩)
      refine (HCH.out A7 c7 A8 c8 A9 n9 c9 q w6.heap.size _ (H76.out.held ((Held.refl w6).alloc _)) (H86.out.held ((Held.refl w6).alloc _)) (S9.out.held ((Held.refl w6).alloc _)) (sl_one rfl y)).mono ?_
      rw [HCE.out]
      obtain ⟨hh, hhe⟩ : ∃ hh, pick (chooseTo H Z d [y] n) = hh := ⟨_, rfl⟩
      rw [hhe]
      have HHE := Lib.hid hhe
      obtain ⟨hb, is⟩ := hh
      rintro e w8 ⟨rfl, k8⟩
      have K8 := Lib.hid (((Held.refl w6).alloc (.cells #[.int .i64 y] 3)).step k8)
      clear hhe k8 x0 x1 x2 x3
      cases is
      · have hsn : (chooseTo H Z d [y] n).1 < 0 ∧ hb = 0 := by
          have := HHE.out
          unfold pick at this
          split at this
          · injection this with e1 e2; exact ⟨by assumption, e1.symm⟩
          · injection this with e1 e2; cases e2
        have HSNN := Lib.hid hsn
        obtain rfl : hb = 0 := hsn.2
        clear hsn
        go_wp2
        go_loopw [18, 19, 20] (fun cn mo i wr => ∃ k : Nat, i = .int .i64 k ∧ k ≤ n ∧ cn = .bool (decide (0 ≤ (chooseTo H Z d [y] k).1)) ∧ mo = .int .i64 (chooseTo H Z d [y] k).2 ∧ Held w8 wr) (fun _ _ i _ => n - (intOf i).toNat)
        case atStart => exact ⟨0, rfl, Nat.zero_le _, rfl, rfl, Held.refl _⟩
        case round =>
          obtain ⟨k, rfl, hk, rfl, rfl, hw⟩ := hrel
          have KB := Lib.hid hw
          clear hw
          by_cases hlt : (k : Int) < n
          · obtain ⟨⟨bst, mst⟩, hsk⟩ : ∃ s, chooseTo H Z d [y] k = s := ⟨_, rfl⟩
            have HSK := Lib.hid hsk
            have hbd := ch_bd H Z d [y] k
            rw [hsk] at hbd ⊢
            simp only at hbd ⊢
            clear hsk
            obtain ⟨wA, hwA⟩ : ∃ wA, wA = wr := ⟨_, rfl⟩
            rw [← hwA] at KB ⊢
            clear hwA wr
            have KA := Lib.hid (K8.out.step KB.out)
            go_wp2
            go_loopw [21, 22] (fun v i w2 => ∃ j : Nat, i = .int .i64 j ∧ j ≤ n9 ∧ Mem wA w2 [.row 43 4 demC wA.heap.size v (gu (Z.take j) k)]) (fun _ i _ => n9 - (intOf i).toNat)
            case atStart => exact ⟨0, rfl, Nat.zero_le _, by simpa [gu] using (Mem.start wA).nilRow (e := 43) (s := 4) (f := demC)⟩
            case round =>
              obtain ⟨j, rfl, hj, M⟩ := hrel
              have M1 := Lib.hid M
              clear M
              have j0 : ¬ (j : Int) < 0 := by omega
              by_cases hlt2 : (j : Int) < n9
              · obtain ⟨b1, f1, dm, rfl, lb1, hd1, c0, c1, c2, c3⟩ := Sl.at4 H86.out (KA.out.step M1.out.held) (k := j) (by omega)
                obtain ⟨b2, f2, xx, rfl, lb2, hx2, xx0⟩ := Sl.at1 S9.out ((KA.out.step M1.out.held)) (k := j) (by omega)
                have hs := HGT.out j dm xx k hd1 hx2
                have hlen := HGB.out k j
                clear hd1 hx2
                by_cases he : xx = k
                · have HSn : Hid (gu (Z.take (j + 1)) k = gu (Z.take j) k ++ [dm]) := show _ = _ by rw [hs]; simp [one, he]
                  have hq : (xx == (k : Int)) = true := by simp [he]
                  obtain ⟨ln, hln⟩ : ∃ ln, (gu (Z.take j) k).length = ln := ⟨_, rfl⟩
                  rw [hln] at hlen
                  have HLN := Lib.hid hln
                  clear hs hln he
                  go_wp2_with (at_builtin; refine Mem.wp_app (M1.out.skip _) 0 rfl rfl _ _ _ rfl _ 32 Try.underlying25 info_dem rfl (by decide) demC_len demC_one dm ⟨wr.heap.size, 0, none⟩ 1 rfl rfl (cells_new _ (by simp) _ _) ln HLN.out (by omega) (by decide) ?_; intro g4 cp4 w4 M4; have M5 := Lib.hid M4; clear M4)
                  go_roundw
                  case rel => exact ⟨j + 1, by go_num, by omega, by rw [HSn.out]; exact M5.out⟩
                  case measure => (simp [intOf]) <;> omega
                · have HSn : Hid (gu (Z.take (j + 1)) k = gu (Z.take j) k) := show _ = _ by rw [hs]; simp [one, he]
                  have hq : (xx == (k : Int)) = false := by simp [he]
                  clear hs he
                  go_wp2
                  go_roundw
                  case rel => exact ⟨j + 1, by go_num, by omega, by rw [HSn.out]; exact M1.out⟩
                  case measure => (simp [intOf]) <;> omega
              · obtain rfl : n9 = j := by omega
                rw [HZT.out] at M1
                have HGL := HGB.out k n9
                rw [HZT.out] at HGL
                obtain ⟨A5, cap5, rfl, hc5, _⟩ := (M1.out.row 0 rfl).shape
                have HDS := Lib.hid (ds_of_sl (Own.reads demC_len (M1.out.row 0 rfl)).1)
                obtain ⟨b3, o3, cc, rfl, lb3, hc, y0, y1, y2⟩ := Sl.at3 H76.out (KA.out.step M1.out.held) (k := k) (by omega)
                have HX1 := Lib.hid (ch_out (Z := Z) (d := d) (no := [y]) hc)
                have HX2 := Lib.hid (ch_bad (Z := Z) (d := d) (no := [y]) hc)
                have HX3 := Lib.hid (ch_yes (Z := Z) (d := d) (no := [y]) hc)
                have HX4 := Lib.hid (ch_no (Z := Z) (d := d) (no := [y]) hc)
                have HCK := Lib.hid hc
                obtain ⟨cm, c9, cu⟩ := cc
                simp only at y0 y1 y2 HX2 HX3 HX4
                rw [HSK.out, hasI_one] at HX1
                rw [HSK.out] at HX2 HX4
                rw [HSK.out, hasI_one] at HX3
                have Y := Lib.hid (And.intro y0 (And.intro y1 y2))
                obtain ⟨G, hG⟩ : ∃ G, gu Z k = G := ⟨_, rfl⟩
                have HGE := Lib.hid hG
                rw [hG] at M1 HDS HGL HX2 HX3 HX4 hc5 ⊢
                have hg100 : (G.length : Int) ≤ 100 := by omega
                have HFR := Lib.hid (free_any cm c9 cu A5 G.length cap5 G wr HDS.out hg100)
                have HAM := Lib.hid (fun w' (q : Held wr w') => admit_any cm c9 cu A5 G.length cap5 G d.r d.l d.c d.g w' (HDS.out.held q) hg100)
                obtain ⟨ad, had⟩ : ∃ ad, admit cm c9 cu G d = ad := ⟨_, rfl⟩
                obtain ⟨fr, hfr⟩ : ∃ fr, freeM cm c9 G = fr := ⟨_, rfl⟩
                obtain ⟨frc, hfrc⟩ : ∃ fr, freeC cm c9 G = fr := ⟨_, rfl⟩
                rw [hfr, hfrc] at HFR
                have had' : admit cm c9 cu G ⟨d.r, d.l, d.c, d.g⟩ = ad := had
                rw [had'] at HAM
                rw [had] at HX2 HX3
                rw [hfr] at HX3 HX4
                simp only at HX1 HX2 HX3 HX4
                have HADE := Lib.hid had
                have hk0 : ¬ (k : Int) < 0 := by omega
                clear hc hG had had' hfr hfrc
                go_wp2_with (go_at_call 17; refine HFR.out.mono ?_; rintro e w14 ⟨rfl, k14⟩)
                have K14 := Lib.hid (M1.out.held.step k14)
                have KW := Lib.hid (KB.out.step K14.out)
                clear y0 y1 y2
                obtain ⟨y0, y1, y2⟩ := And.intro (k14.cell Y.out.1) (And.intro (k14.cell Y.out.2.1) (k14.cell Y.out.2.2))
                obtain ⟨x0, x1, x2, x3⟩ := HCC.out w14 (KA.out.step K14.out)
                have r0 := cell_regrown y0
                have r1 := cell_regrown y1
                have r2 := cell_regrown y2
                have r3 := cell_regrown x0
                have r4 := cell_regrown x1
                have r5 := cell_regrown x2
                have r6 := cell_regrown x3
                have cA := Lib.hid fun dd os => Calls.regrown_of (d := dd) (os := os) (HAM.out (grow (redrawn w14 dd) os) (Held.step k14 (below_regrown w14 dd os)))
                clear y0 y1 y2 x0 x1 x2 x3 HDS
                by_cases hyk : y = (k : Int)
                · have HN := Lib.hid (HX1.out (by simp [hyk]))
                  have hby : ((k : Int) != y) = false := by simp [hyk]

                  clear hyk
                  go_wp2
                  refine wp_region_quiet_below (by kernel_rfl) (by kernel_rfl) ?_
                  repeat (go_big_quiet_step (first | (go_at_call 18; exact cA.out _ _)))
                  refine wpQuiet_nil ?_
                  intro w15 hw'
                  obtain ⟨⟨dq, osq⟩, hw''⟩ := hw'
                  have h15 : Held w14 w15 := by rw [hw'']; exact below_regrown _ dq osq
                  clear hw'' cA r0 r1 r2 r3 r4 r5 r6
                  go_wp2
                  go_roundw
                  case rel => exact ⟨k + 1, by go_num, by omega, by rw [HN.out], by rw [HN.out], KW.out.step h15⟩
                  case measure => (simp [intOf]) <;> omega
                · have hby : ((k : Int) != y) = true := by simp; exact fun e => hyk e.symm
                  have hyk' : decide (y = (k : Int)) = false := by simp [hyk]
                  by_cases ha : ad = 0
                  · have hab : (ad == 0) = true := by simp [ha]
                    have HA0 : Hid (ad = 0) := ha
                    by_cases hcb : bst < 0
                    · have HN := Lib.hid (HX3.out hyk' HA0.out (.inl hcb))
                      have hc0 : decide (0 ≤ bst) = false := by simp; omega
                      clear hyk hyk' ha
                      go_wp2
                      refine wp_region_quiet_below (by kernel_rfl) (by kernel_rfl) ?_
                      repeat (go_big_quiet_step (first | (go_at_call 18; exact cA.out _ _)))
                      refine wpQuiet_nil ?_
                      intro w15 hw'
                      obtain ⟨⟨dq, osq⟩, hw''⟩ := hw'
                      have h15 : Held w14 w15 := by rw [hw'']; exact below_regrown _ dq osq
                      clear hw'' cA r0 r1 r2 r3 r4 r5 r6
                      go_wp2
                      go_roundw
                      case rel => exact ⟨k + 1, by go_num, by omega, by rw [HN.out]; simp, by rw [HN.out], KW.out.step h15⟩
                      case measure => (simp [intOf]) <;> omega
                    · have hc0 : decide (0 ≤ bst) = true := by simp; omega
                      by_cases hmf : mst < fr
                      · have HN := Lib.hid (HX3.out hyk' HA0.out (.inr hmf))
                        have hmb : decide (mst < fr) = true := by simp [hmf]
                        clear hyk hyk' ha
                        go_wp2
                        refine wp_region_quiet_below (by kernel_rfl) (by kernel_rfl) ?_
                        repeat (go_big_quiet_step (first | (go_at_call 18; exact cA.out _ _)))
                        refine wpQuiet_nil ?_
                        intro w15 hw'
                        obtain ⟨⟨dq, osq⟩, hw''⟩ := hw'
                        have h15 : Held w14 w15 := by rw [hw'']; exact below_regrown _ dq osq
                        clear hw'' cA r0 r1 r2 r3 r4 r5 r6
                        go_wp2
                        go_roundw
                        case rel => exact ⟨k + 1, by go_num, by omega, by rw [HN.out]; simp, by rw [HN.out], KW.out.step h15⟩
                        case measure => (simp [intOf]) <;> omega
                      · have HN := Lib.hid (HX4.out (by omega))
                        have hmb : decide (mst < fr) = false := by simp; omega
                        clear hyk hyk' ha
                        go_wp2
                        refine wp_region_quiet_below (by kernel_rfl) (by kernel_rfl) ?_
                        repeat (go_big_quiet_step (first | (go_at_call 18; exact cA.out _ _)))
                        refine wpQuiet_nil ?_
                        intro w15 hw'
                        obtain ⟨⟨dq, osq⟩, hw''⟩ := hw'
                        have h15 : Held w14 w15 := by rw [hw'']; exact below_regrown _ dq osq
                        clear hw'' cA r0 r1 r2 r3 r4 r5 r6
                        go_wp2
                        go_roundw
                        case rel => exact ⟨k + 1, by go_num, by omega, by rw [HN.out]; simp; omega, by rw [HN.out], KW.out.step h15⟩
                        case measure => (simp [intOf]) <;> omega
                  · have hab : (ad == 0) = false := by simp [ha]
                    have HN := Lib.hid (HX2.out ha)

                    clear hyk hyk' ha
                    go_wp2
                    refine wp_region_quiet_below (by kernel_rfl) (by kernel_rfl) ?_
                    repeat (go_big_quiet_step (first | (go_at_call 18; exact cA.out _ _)))
                    refine wpQuiet_nil ?_
                    intro w15 hw'
                    obtain ⟨⟨dq, osq⟩, hw''⟩ := hw'
                    have h15 : Held w14 w15 := by rw [hw'']; exact below_regrown _ dq osq
                    clear hw'' cA r0 r1 r2 r3 r4 r5 r6
                    go_wp2
                    go_roundw
                    case rel => exact ⟨k + 1, by go_num, by omega, by rw [HN.out], by rw [HN.out], KW.out.step h15⟩
                    case measure => (simp [intOf]) <;> omega
          · obtain rfl : n = k := by omega
            have HSE := Lib.hid (HSNN.out.1)
            have hc0 : decide (0 ≤ (chooseTo H Z d [y] n).1) = false := by have := HSNN.out.1; simp; omega
            obtain ⟨cb, hcb⟩ : ∃ cb, decide (0 ≤ (chooseTo H Z d [y] n).1) = cb := ⟨_, rfl⟩
            obtain ⟨mv, hmv⟩ : ∃ mv, (chooseTo H Z d [y] n).2 = mv := ⟨_, rfl⟩
            rw [hcb] at hc0
            rw [hcb, hmv]
            subst hc0
            clear hcb hmv
            go_wp2_with (go_at_call 9; refine (HAW.out _).mono ?_; rintro e w19 ⟨rfl, k19⟩)
            go_ret
            exact ⟨rfl, ((KF.out.step K8.out).step KB.out).step k19⟩
      · have hsn : 0 ≤ (chooseTo H Z d [y] n).1 ∧ hb = (chooseTo H Z d [y] n).1 := by
          have := HHE.out
          unfold pick at this
          split at this
          · injection this with e1 e2; cases e2
          · injection this with e1 e2; exact ⟨by omega, e1.symm⟩
        obtain ⟨h0, c0, g1', g2', g3', g4', g5', g6', _⟩ := HINV.out.2 hsn.1
        have hbe : hb = (h0 : Int) := hsn.2.trans g1'
        have HOK := Lib.hid (show ∀ k : Nat, (k : Int) = hb → hasI [y] k = false from by
          intro k e
          have e2 : k = h0 := by omega
          rw [e2]; exact g4')
        have HOA := Lib.hid (show ∀ (k : Nat) (c : Hc), (k : Int) = hb → H[k]? = some c → admit c.m c.c c.up (gu Z k) d = 0 from by
          intro k c e hc
          have e2 : k = h0 := by omega
          subst e2
          rw [g3'] at hc; injection hc with hc; subst hc; exact g5')
        have HSNN := Lib.hid (And.intro hsn.1 (And.intro g2' (And.intro g3' g6')))
        have HBE := Lib.hid hbe
        clear hsn g1' g2' g3' g4' g5' g6' hbe
        go_wp2
        go_loopw [18, 19, 20] (fun cn mo i wr => ∃ k : Nat, i = .int .i64 k ∧ k ≤ n ∧ cn = .bool (decide (0 ≤ (chooseTo H Z d [y] k).1)) ∧ mo = .int .i64 (chooseTo H Z d [y] k).2 ∧ Held w8 wr) (fun _ _ i _ => n - (intOf i).toNat)
        case atStart => exact ⟨0, rfl, Nat.zero_le _, rfl, rfl, Held.refl _⟩
        case round =>
          obtain ⟨k, rfl, hk, rfl, rfl, hw⟩ := hrel
          have KB := Lib.hid hw
          clear hw
          by_cases hlt : (k : Int) < n
          · obtain ⟨⟨bst, mst⟩, hsk⟩ : ∃ s, chooseTo H Z d [y] k = s := ⟨_, rfl⟩
            have HSK := Lib.hid hsk
            have hbd := ch_bd H Z d [y] k
            rw [hsk] at hbd ⊢
            simp only at hbd ⊢
            clear hsk
            obtain ⟨wA, hwA⟩ : ∃ wA, wA = wr := ⟨_, rfl⟩
            rw [← hwA] at KB ⊢
            clear hwA wr
            have KA := Lib.hid (K8.out.step KB.out)
            go_wp2
            go_loopw [21, 22] (fun v i w2 => ∃ j : Nat, i = .int .i64 j ∧ j ≤ n9 ∧ Mem wA w2 [.row 43 4 demC wA.heap.size v (gu (Z.take j) k)]) (fun _ i _ => n9 - (intOf i).toNat)
            case atStart => exact ⟨0, rfl, Nat.zero_le _, by simpa [gu] using (Mem.start wA).nilRow (e := 43) (s := 4) (f := demC)⟩
            case round =>
              obtain ⟨j, rfl, hj, M⟩ := hrel
              have M1 := Lib.hid M
              clear M
              have j0 : ¬ (j : Int) < 0 := by omega
              by_cases hlt2 : (j : Int) < n9
              · obtain ⟨b1, f1, dm, rfl, lb1, hd1, c0, c1, c2, c3⟩ := Sl.at4 H86.out (KA.out.step M1.out.held) (k := j) (by omega)
                obtain ⟨b2, f2, xx, rfl, lb2, hx2, xx0⟩ := Sl.at1 S9.out ((KA.out.step M1.out.held)) (k := j) (by omega)
                have hs := HGT.out j dm xx k hd1 hx2
                have hlen := HGB.out k j
                clear hd1 hx2
                by_cases he : xx = k
                · have HSn : Hid (gu (Z.take (j + 1)) k = gu (Z.take j) k ++ [dm]) := show _ = _ by rw [hs]; simp [one, he]
                  have hq : (xx == (k : Int)) = true := by simp [he]
                  obtain ⟨ln, hln⟩ : ∃ ln, (gu (Z.take j) k).length = ln := ⟨_, rfl⟩
                  rw [hln] at hlen
                  have HLN := Lib.hid hln
                  clear hs hln he
                  go_wp2_with (at_builtin; refine Mem.wp_app (M1.out.skip _) 0 rfl rfl _ _ _ rfl _ 32 Try.underlying25 info_dem rfl (by decide) demC_len demC_one dm ⟨wr.heap.size, 0, none⟩ 1 rfl rfl (cells_new _ (by simp) _ _) ln HLN.out (by omega) (by decide) ?_; intro g4 cp4 w4 M4; have M5 := Lib.hid M4; clear M4)
                  go_roundw
                  case rel => exact ⟨j + 1, by go_num, by omega, by rw [HSn.out]; exact M5.out⟩
                  case measure => (simp [intOf]) <;> omega
                · have HSn : Hid (gu (Z.take (j + 1)) k = gu (Z.take j) k) := show _ = _ by rw [hs]; simp [one, he]
                  have hq : (xx == (k : Int)) = false := by simp [he]
                  clear hs he
                  go_wp2
                  go_roundw
                  case rel => exact ⟨j + 1, by go_num, by omega, by rw [HSn.out]; exact M1.out⟩
                  case measure => (simp [intOf]) <;> omega
              · obtain rfl : n9 = j := by omega
                rw [HZT.out] at M1
                have HGL := HGB.out k n9
                rw [HZT.out] at HGL
                obtain ⟨A5, cap5, rfl, hc5, _⟩ := (M1.out.row 0 rfl).shape
                have HDS := Lib.hid (ds_of_sl (Own.reads demC_len (M1.out.row 0 rfl)).1)
                obtain ⟨b3, o3, cc, rfl, lb3, hc, y0, y1, y2⟩ := Sl.at3 H76.out (KA.out.step M1.out.held) (k := k) (by omega)
                have HX1 := Lib.hid (ch_out (Z := Z) (d := d) (no := [y]) hc)
                have HX2 := Lib.hid (ch_bad (Z := Z) (d := d) (no := [y]) hc)
                have HX3 := Lib.hid (ch_yes (Z := Z) (d := d) (no := [y]) hc)
                have HX4 := Lib.hid (ch_no (Z := Z) (d := d) (no := [y]) hc)
                have HCK := Lib.hid hc
                obtain ⟨cm, c9, cu⟩ := cc
                simp only at y0 y1 y2 HX2 HX3 HX4
                rw [HSK.out, hasI_one] at HX1
                rw [HSK.out] at HX2 HX4
                rw [HSK.out, hasI_one] at HX3
                have Y := Lib.hid (And.intro y0 (And.intro y1 y2))
                obtain ⟨G, hG⟩ : ∃ G, gu Z k = G := ⟨_, rfl⟩
                have HGE := Lib.hid hG
                rw [hG] at M1 HDS HGL HX2 HX3 HX4 hc5 ⊢
                have hg100 : (G.length : Int) ≤ 100 := by omega
                have HFR := Lib.hid (free_any cm c9 cu A5 G.length cap5 G wr HDS.out hg100)
                have HAM := Lib.hid (fun w' (q : Held wr w') => admit_any cm c9 cu A5 G.length cap5 G d.r d.l d.c d.g w' (HDS.out.held q) hg100)
                obtain ⟨ad, had⟩ : ∃ ad, admit cm c9 cu G d = ad := ⟨_, rfl⟩
                obtain ⟨fr, hfr⟩ : ∃ fr, freeM cm c9 G = fr := ⟨_, rfl⟩
                obtain ⟨frc, hfrc⟩ : ∃ fr, freeC cm c9 G = fr := ⟨_, rfl⟩
                rw [hfr, hfrc] at HFR
                have had' : admit cm c9 cu G ⟨d.r, d.l, d.c, d.g⟩ = ad := had
                rw [had'] at HAM
                rw [had] at HX2 HX3
                rw [hfr] at HX3 HX4
                simp only at HX1 HX2 HX3 HX4
                have HADE := Lib.hid had
                have hk0 : ¬ (k : Int) < 0 := by omega
                clear hc hG had had' hfr hfrc
                go_wp2_with (go_at_call 17; refine HFR.out.mono ?_; rintro e w14 ⟨rfl, k14⟩)
                have K14 := Lib.hid (M1.out.held.step k14)
                have KW := Lib.hid (KB.out.step K14.out)
                clear y0 y1 y2
                obtain ⟨y0, y1, y2⟩ := And.intro (k14.cell Y.out.1) (And.intro (k14.cell Y.out.2.1) (k14.cell Y.out.2.2))
                obtain ⟨x0, x1, x2, x3⟩ := HCC.out w14 (KA.out.step K14.out)
                have r0 := cell_regrown y0
                have r1 := cell_regrown y1
                have r2 := cell_regrown y2
                have r3 := cell_regrown x0
                have r4 := cell_regrown x1
                have r5 := cell_regrown x2
                have r6 := cell_regrown x3
                have cA := Lib.hid fun dd os => Calls.regrown_of (d := dd) (os := os) (HAM.out (grow (redrawn w14 dd) os) (Held.step k14 (below_regrown w14 dd os)))
                clear y0 y1 y2 x0 x1 x2 x3 HDS
                by_cases hyk : y = (k : Int)
                · have HN := Lib.hid (HX1.out (by simp [hyk]))
                  have hby : ((k : Int) != y) = false := by simp [hyk]
                  have HNF : Hid (¬ (k : Int) = hb) := fun e => by
                    have := HOK.out k e
                    rw [hasI_one] at this
                    simp [hyk] at this
                  have hkb : ((k : Int) == hb) = false := by
                    have hne : ¬ (k : Int) = hb := fun e => HNF.out e
                    simp [hne]
                  clear hyk
                  go_wp2
                  refine wp_region_quiet_below (by kernel_rfl) (by kernel_rfl) ?_
                  repeat (go_big_quiet_step (first | (go_at_call 18; exact cA.out _ _)))
                  refine wpQuiet_nil ?_
                  intro w15 hw'
                  obtain ⟨⟨dq, osq⟩, hw''⟩ := hw'
                  have h15 : Held w14 w15 := by rw [hw'']; exact below_regrown _ dq osq
                  clear hw'' cA r0 r1 r2 r3 r4 r5 r6
                  go_wp2
                  go_roundw
                  case rel => exact ⟨k + 1, by go_num, by omega, by rw [HN.out], by rw [HN.out], KW.out.step h15⟩
                  case measure => (simp [intOf]) <;> omega
                · have hby : ((k : Int) != y) = true := by simp; exact fun e => hyk e.symm
                  have hyk' : decide (y = (k : Int)) = false := by simp [hyk]
                  by_cases ha : ad = 0
                  · have hab : (ad == 0) = true := by simp [ha]
                    have HA0 : Hid (ad = 0) := ha
                    by_cases hcb : bst < 0
                    · have HN := Lib.hid (HX3.out hyk' HA0.out (.inl hcb))
                      have hc0 : decide (0 ≤ bst) = false := by simp; omega
                      clear hyk hyk' ha
                      by_cases hkh : (k : Int) = hb
                      · have hkb : ((k : Int) == hb) = true := by simp [hkh]
                        clear hkh
                        go_wp2
                        refine wp_region_quiet_below (by kernel_rfl) (by kernel_rfl) ?_
                        repeat (go_big_quiet_step (first | (go_at_call 18; exact cA.out _ _)))
                        refine wpQuiet_nil ?_
                        intro w15 hw'
                        obtain ⟨⟨dq, osq⟩, hw''⟩ := hw'
                        have h15 : Held w14 w15 := by rw [hw'']; exact below_regrown _ dq osq
                        clear hw'' cA r0 r1 r2 r3 r4 r5 r6
                        go_wp2
                        go_roundw
                        case rel => exact ⟨k + 1, by go_num, by omega, by rw [HN.out]; simp, by rw [HN.out], KW.out.step h15⟩
                        case measure => (simp [intOf]) <;> omega
                      · have hkb : ((k : Int) == hb) = false := by simp [hkh]
                        clear hkh
                        go_wp2
                        refine wp_region_quiet_below (by kernel_rfl) (by kernel_rfl) ?_
                        repeat (go_big_quiet_step (first | (go_at_call 18; exact cA.out _ _)))
                        refine wpQuiet_nil ?_
                        intro w15 hw'
                        obtain ⟨⟨dq, osq⟩, hw''⟩ := hw'
                        have h15 : Held w14 w15 := by rw [hw'']; exact below_regrown _ dq osq
                        clear hw'' cA r0 r1 r2 r3 r4 r5 r6
                        go_wp2
                        go_roundw
                        case rel => exact ⟨k + 1, by go_num, by omega, by rw [HN.out]; simp, by rw [HN.out], KW.out.step h15⟩
                        case measure => (simp [intOf]) <;> omega
                    · have hc0 : decide (0 ≤ bst) = true := by simp; omega
                      by_cases hmf : mst < fr
                      · have HN := Lib.hid (HX3.out hyk' HA0.out (.inr hmf))
                        have hmb : decide (mst < fr) = true := by simp [hmf]
                        clear hyk hyk' ha
                        by_cases hkh : (k : Int) = hb
                        · have hkb : ((k : Int) == hb) = true := by simp [hkh]
                          clear hkh
                          go_wp2
                          refine wp_region_quiet_below (by kernel_rfl) (by kernel_rfl) ?_
                          repeat (go_big_quiet_step (first | (go_at_call 18; exact cA.out _ _)))
                          refine wpQuiet_nil ?_
                          intro w15 hw'
                          obtain ⟨⟨dq, osq⟩, hw''⟩ := hw'
                          have h15 : Held w14 w15 := by rw [hw'']; exact below_regrown _ dq osq
                          clear hw'' cA r0 r1 r2 r3 r4 r5 r6
                          go_wp2
                          go_roundw
                          case rel => exact ⟨k + 1, by go_num, by omega, by rw [HN.out]; simp, by rw [HN.out], KW.out.step h15⟩
                          case measure => (simp [intOf]) <;> omega
                        · have hkb : ((k : Int) == hb) = false := by simp [hkh]
                          clear hkh
                          go_wp2
                          refine wp_region_quiet_below (by kernel_rfl) (by kernel_rfl) ?_
                          repeat (go_big_quiet_step (first | (go_at_call 18; exact cA.out _ _)))
                          refine wpQuiet_nil ?_
                          intro w15 hw'
                          obtain ⟨⟨dq, osq⟩, hw''⟩ := hw'
                          have h15 : Held w14 w15 := by rw [hw'']; exact below_regrown _ dq osq
                          clear hw'' cA r0 r1 r2 r3 r4 r5 r6
                          go_wp2
                          go_roundw
                          case rel => exact ⟨k + 1, by go_num, by omega, by rw [HN.out]; simp, by rw [HN.out], KW.out.step h15⟩
                          case measure => (simp [intOf]) <;> omega
                      · have HN := Lib.hid (HX4.out (by omega))
                        have hmb : decide (mst < fr) = false := by simp; omega
                        clear hyk hyk' ha
                        by_cases hkh : (k : Int) = hb
                        · have hkb : ((k : Int) == hb) = true := by simp [hkh]
                          clear hkh
                          go_wp2
                          refine wp_region_quiet_below (by kernel_rfl) (by kernel_rfl) ?_
                          repeat (go_big_quiet_step (first | (go_at_call 18; exact cA.out _ _)))
                          refine wpQuiet_nil ?_
                          intro w15 hw'
                          obtain ⟨⟨dq, osq⟩, hw''⟩ := hw'
                          have h15 : Held w14 w15 := by rw [hw'']; exact below_regrown _ dq osq
                          clear hw'' cA r0 r1 r2 r3 r4 r5 r6
                          go_wp2
                          go_roundw
                          case rel => exact ⟨k + 1, by go_num, by omega, by rw [HN.out]; simp; omega, by rw [HN.out], KW.out.step h15⟩
                          case measure => (simp [intOf]) <;> omega
                        · have hkb : ((k : Int) == hb) = false := by simp [hkh]
                          clear hkh
                          go_wp2
                          refine wp_region_quiet_below (by kernel_rfl) (by kernel_rfl) ?_
                          repeat (go_big_quiet_step (first | (go_at_call 18; exact cA.out _ _)))
                          refine wpQuiet_nil ?_
                          intro w15 hw'
                          obtain ⟨⟨dq, osq⟩, hw''⟩ := hw'
                          have h15 : Held w14 w15 := by rw [hw'']; exact below_regrown _ dq osq
                          clear hw'' cA r0 r1 r2 r3 r4 r5 r6
                          go_wp2
                          go_roundw
                          case rel => exact ⟨k + 1, by go_num, by omega, by rw [HN.out]; simp; omega, by rw [HN.out], KW.out.step h15⟩
                          case measure => (simp [intOf]) <;> omega
                  · have hab : (ad == 0) = false := by simp [ha]
                    have HN := Lib.hid (HX2.out ha)
                    have HNF : Hid (¬ (k : Int) = hb) := fun e => by
                      have := HOA.out k _ e HCK.out
                      rw [HGE.out, HADE.out] at this
                      exact ha this
                    have hkb : ((k : Int) == hb) = false := by
                      have hne : ¬ (k : Int) = hb := fun e => HNF.out e
                      simp [hne]
                    clear hyk hyk' ha
                    go_wp2
                    refine wp_region_quiet_below (by kernel_rfl) (by kernel_rfl) ?_
                    repeat (go_big_quiet_step (first | (go_at_call 18; exact cA.out _ _)))
                    refine wpQuiet_nil ?_
                    intro w15 hw'
                    obtain ⟨⟨dq, osq⟩, hw''⟩ := hw'
                    have h15 : Held w14 w15 := by rw [hw'']; exact below_regrown _ dq osq
                    clear hw'' cA r0 r1 r2 r3 r4 r5 r6
                    go_wp2
                    go_roundw
                    case rel => exact ⟨k + 1, by go_num, by omega, by rw [HN.out], by rw [HN.out], KW.out.step h15⟩
                    case measure => (simp [intOf]) <;> omega
          · obtain rfl : n = k := by omega
            obtain ⟨wA, hwA⟩ : ∃ wA, wA = wr := ⟨_, rfl⟩
            rw [← hwA] at KB ⊢
            clear hwA wr
            have KA := Lib.hid (K8.out.step KB.out)
            have hc0 : decide (0 ≤ (chooseTo H Z d [y] n).1) = true := by have := HSNN.out.1; simp; exact this
            obtain ⟨cb, hcb⟩ : ∃ cb, decide (0 ≤ (chooseTo H Z d [y] n).1) = cb := ⟨_, rfl⟩
            obtain ⟨mv, hmv⟩ : ∃ mv, (chooseTo H Z d [y] n).2 = mv := ⟨_, rfl⟩
            rw [hcb] at hc0
            rw [hcb, hmv]
            subst hc0
            have HMV : Hid (mv = freeM c0.m c0.c (gu Z h0)) := show _ = _ by rw [← hmv]; exact HSNN.out.2.2.2
            clear hcb hmv
            obtain rfl : hb = (h0 : Int) := HBE.out
            have hh0 : (h0 : Int) < n := by have := HSNN.out.2.1; omega
            have hh1 : ¬ (h0 : Int) < 0 := by omega
            have hh2 : ¬ (n : Int) ≤ h0 := by omega
            go_wp2
            go_loopw [26, 27] (fun v i w2 => ∃ j : Nat, i = .int .i64 j ∧ j ≤ n9 ∧ Mem wA w2 [.row 43 4 demC wA.heap.size v (gu (Z.take j) h0)]) (fun _ i _ => n9 - (intOf i).toNat)
            case atStart => exact ⟨0, rfl, Nat.zero_le _, by simpa [gu] using (Mem.start wA).nilRow (e := 43) (s := 4) (f := demC)⟩
            case round =>
              obtain ⟨j, rfl, hj, M⟩ := hrel
              have M1 := Lib.hid M
              clear M
              have j0 : ¬ (j : Int) < 0 := by omega
              by_cases hlt2 : (j : Int) < n9
              · obtain ⟨b1, f1, dm, rfl, lb1, hd1, c0, c1, c2, c3⟩ := Sl.at4 H86.out (KA.out.step M1.out.held) (k := j) (by omega)
                obtain ⟨b2, f2, xx, rfl, lb2, hx2, xx0⟩ := Sl.at1 S9.out ((KA.out.step M1.out.held)) (k := j) (by omega)
                have hs := HGT.out j dm xx h0 hd1 hx2
                have hlen := HGB.out h0 j
                clear hd1 hx2
                by_cases he : xx = h0
                · have HSn : Hid (gu (Z.take (j + 1)) h0 = gu (Z.take j) h0 ++ [dm]) := show _ = _ by rw [hs]; simp [one, he]
                  have hq : (xx == (h0 : Int)) = true := by simp [he]
                  obtain ⟨ln, hln⟩ : ∃ ln, (gu (Z.take j) h0).length = ln := ⟨_, rfl⟩
                  rw [hln] at hlen
                  have HLN := Lib.hid hln
                  clear hs hln he
                  go_wp2_with (at_builtin; refine Mem.wp_app (M1.out.skip _) 0 rfl rfl _ _ _ rfl _ 32 Try.underlying25 info_dem rfl (by decide) demC_len demC_one dm ⟨wr.heap.size, 0, none⟩ 1 rfl rfl (cells_new _ (by simp) _ _) ln HLN.out (by omega) (by decide) ?_; intro g4 cp4 w4 M4; have M5 := Lib.hid M4; clear M4)
                  go_roundw
                  case rel => exact ⟨j + 1, by go_num, by omega, by rw [HSn.out]; exact M5.out⟩
                  case measure => (simp [intOf]) <;> omega
                · have HSn : Hid (gu (Z.take (j + 1)) h0 = gu (Z.take j) h0) := show _ = _ by rw [hs]; simp [one, he]
                  have hq : (xx == (h0 : Int)) = false := by simp [he]
                  clear hs he
                  go_wp2
                  go_roundw
                  case rel => exact ⟨j + 1, by go_num, by omega, by rw [HSn.out]; exact M1.out⟩
                  case measure => (simp [intOf]) <;> omega
              · obtain rfl : n9 = j := by omega
                rw [HZT.out] at M1
                have HGL := HGB.out h0 n9
                rw [HZT.out] at HGL
                obtain ⟨A5, cap5, rfl, hc5, _⟩ := (M1.out.row 0 rfl).shape
                have HDS := Lib.hid (ds_of_sl (Own.reads demC_len (M1.out.row 0 rfl)).1)
                obtain ⟨b3, o3, cc, rfl, lb3, hc, y0, y1, y2⟩ := Sl.at3 H76.out (KA.out.step M1.out.held) (k := h0) (by omega)
                obtain rfl : c0 = cc := by have := HSNN.out.2.2.1; rw [hc] at this; injection this with this; exact this.symm
                obtain ⟨cm, c9, cu⟩ := c0
                simp only at y0 y1 y2 HMV
                obtain ⟨G, hG⟩ : ∃ G, gu Z h0 = G := ⟨_, rfl⟩
                rw [hG] at M1 HDS HGL HMV hc5 ⊢
                have hg100 : (G.length : Int) ≤ 100 := by omega
                have HFR := Lib.hid (free_any cm c9 cu A5 G.length cap5 G wr HDS.out hg100)
                rw [← HMV.out] at HFR
                have hmm : (mv == mv) = true := by simp
                clear hc hG
                go_wp2_with (first | (go_at_call 17; refine HFR.out.mono ?_; rintro e w14 ⟨rfl, k14⟩) | (go_at_call 9; refine (HAW.out _).mono ?_; rintro e w19 ⟨rfl, k19⟩))
                go_ret
                exact ⟨rfl, (((KF.out.step KA.out).step M1.out.held).step k14).step k19⟩
end Ba
end Go.Proofs.Ytmmjofdienoobaa
