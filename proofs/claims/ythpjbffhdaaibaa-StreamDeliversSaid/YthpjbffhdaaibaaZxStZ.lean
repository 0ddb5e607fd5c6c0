/-
  Chapter 24: StreamDelivers: the walk.
-/
import Derived.Test.YthpjbffhdaaibaaZxStZa
import Derived.Deep.DeepCutAuto
import Derived.Deep.CutBlock
set_option linter.unusedVariables false
set_option linter.unusedSimpArgs false
set_option maxRecDepth 100000
namespace Go.Proofs.Ythpjbffhdaaibaa
open Go.RowKit Go.BigFrame Go.Sort Go.Lib
namespace St
open Enc Uv Lg Lgc Strs
/-- Where the law's loop stands. -/
structure DSt (W : World) (at_ nP cap pn sb rb fb bb : Nat) (A : Option Addr) (R : List SR) (a K nQ cQ nE cE nD cD nF cF nB cB b1 pa k1 pK : Nat) (AQ AE AD AF AB : Option Addr) (RQ : List SR) (RE : List ErR) (RD : List SR) (FP BP : List ByteArray) (wr : World) : Prop where
  aK : a ≤ K
  KN : K ≤ nP
  b1e : b1 = a + 1
  pae : pa = pos at_ (gs R) a
  k1e : k1 = K + 1
  pKe : pK = pos at_ (gs R) K
  nQ8 : nQ ≤ 8
  nE8 : nE ≤ 1000000
  nDK : nD = K
  nF24 : nF ≤ 24
  nB24 : nB ≤ 24
  snd : sndAt at_ (gs R) a nP = ⟨b1, pn, pa, gs RQ⟩
  ei : EI at_ (gs R) K nP (ers RE)
  got : gs RD = (gs R).take K
  qf : ∀ x ∈ FP, QF (gs R) x
  qb : ∀ x ∈ BP, QB at_ (gs R) K x
  all : All wr R RQ RD [] RE
  mem : Mem W wr [.row 32 3 segC W.heap.size (.slice A nP cap) R, .row 32 3 segC W.heap.size (.slice AQ nQ cQ) RQ, .box sb #[.int .u64 (b1 : Int), .int .u64 (pn : Int), .int .u64 (pa : Int), .slice AQ nQ cQ] 38, .box rb #[.int .u64 (k1 : Int), .int .u64 (pK : Int), .slice AE nE cE] 41, .row 87 4 erC W.heap.size (.slice AE nE cE) RE, .row 32 3 segC W.heap.size (.slice AD nD cD) RD, .box fb #[.slice AF nF cF, .bool false] 59, .row 9 1 stC W.heap.size (.slice AF nF cF) FP, .box bb #[.slice AB nB cB, .bool false] 59, .row 9 1 stC W.heap.size (.slice AB nB cB) BP]
def DInv (W : World) (at_ nP cap pn sb rb fb bb : Nat) (A : Option Addr) (R : List SR) (v : Value) (wr : World) : Prop :=
  ∃ (a K nQ cQ nE cE nD cD nF cF nB cB b1 pa k1 pK : Nat) (AQ AE AD AF AB : Option Addr) (RQ : List SR) (RE : List ErR) (RD : List SR) (FP BP : List ByteArray), v = .slice AD nD cD ∧ DSt W at_ nP cap pn sb rb fb bb A R a K nQ cQ nE cE nD cD nF cF nB cB b1 pa k1 pK AQ AE AD AF AB RQ RE RD FP BP wr
theorem tdiv8_bd {x : Int} (h1 : -9223372036854775808 ≤ x) (h2 : x ≤ 9223372036854775807) : -9223372036854775808 ≤ x.tdiv 8 ∧ x.tdiv 8 ≤ 9223372036854775807 := by
  rcases Int.le_total 0 x with h | h
  · rw [Int.tdiv_eq_ediv_of_nonneg h]; omega
  · obtain ⟨y, rfl⟩ : ∃ y, x = -y := ⟨-x, by omega⟩
    rw [Int.neg_tdiv, Int.tdiv_eq_ediv_of_nonneg (by omega)]; omega
theorem ei_len {at_ : Nat} {G : List Seg} {K m : Nat} {E : List Er} (e : EI at_ G K m E) (hm : m ≤ 8) : E.length ≤ 8 := by
  have hl := asc_len Er.s E (K + 1) m e.asc fun x hx => by obtain ⟨i, hi, h1, h2, rfl⟩ := e.mem x hx; exact ⟨by simp only; omega, by simp only; omega⟩
  omega
set_option maxHeartbeats 40000000 in
theorem delivers (o0 : Option Addr) (len0 cap0 : Nat) (z0 : List Int) (a1 : Int) (o2 : Option Addr) (len2 cap2 : Nat) (z2 : List Int) (w1 : (Lit.int .u64 a1).wf = true) (W : World) (w0 : Rw.IsRow .i64 W o0 len0 cap0 z0) (w2 : Rw.IsRow .i64 W o2 len2 cap2 z2) :
    Calls Try.prog 7 #[.slice o0 len0 cap0, .int .u64 a1, .slice o2 len2 cap2] W fun e w' => e = .returned (.bool true) ∧ Below W.heap.size W w' := by
  have hat := Rw.bd_u64 w1
  obtain ⟨at_, rfl⟩ := Int.eq_ofNat_of_zero_le hat.1
  obtain ⟨L, hL, hmx, hLb⟩ := nums_in w0
  obtain ⟨L2, hL2, hmx2, hLb2⟩ := nums_in w2
  have HAW := Lib.hid awake_any
  by_cases t1 : (8 : Int) < len0
  · clear hL hLb hL2 hLb2 w0 w1 w2
    go_enter Try.func7, Try.ntmps7
    go_wp2_with (go_at_call 8; refine (HAW.out _).mono ?_; rintro e w1 ⟨rfl, h1⟩)
    go_ret
    exact ⟨rfl, h1⟩
  have t1d : decide ((8 : Int) < len0) = false := decide_eq_false t1
  by_cases t2 : (1099511627776 : Int) < at_
  · clear hL hLb hL2 hLb2 w0 w1 w2
    go_enter Try.func7, Try.ntmps7
    go_wp2_with (go_at_call 8; refine (HAW.out _).mono ?_; rintro e w1 ⟨rfl, h1⟩)
    go_ret
    exact ⟨rfl, h1⟩
  have t2d : decide ((1099511627776 : Int) < at_) = false := decide_eq_false t2
  by_cases t3 : (60 : Int) < len2
  · clear hL hLb hL2 hLb2 w0 w1 w2
    go_enter Try.func7, Try.ntmps7
    go_wp2_with (go_at_call 8; refine (HAW.out _).mono ?_; rintro e w1 ⟨rfl, h1⟩)
    go_ret
    exact ⟨rfl, h1⟩
  have t3d : decide ((60 : Int) < len2) = false := decide_eq_false t3
  have HSG := Lib.hid (segments_any o0 len0 cap0 L at_ 0 W (Nat.zero_le _) hL hLb (by omega) (by omega))
  have HO := Lib.hid hL2
  have HOB := Lib.hid hLb2
  clear hL hLb hL2 hLb2 w0 w1 w2
  go_enter Try.func7, Try.ntmps7
  go_wp2_with fail
  refine HSG.out.mono ?_
  rintro e w1 ⟨A, cap, R, rfl, hRl, hch, oR, sR, h1⟩
  have M1 := Lib.hid ((Mem.start W).own h1 oR)
  have HRL : Is R.length len0 := ⟨hRl⟩
  have hgl : (gs R).length = len0 := by rw [gs_len]; exact hRl
  have HGL : Is (gs R).length len0 := ⟨hgl⟩
  have hs2 := started_any A len0 cap R at_ 0 w1 (Nat.zero_le _) (Own.reads segC_len oR).1 sR hch (by omega) (by omega)
  unfold StTo at hs2
  rw [hgl, show min len0 8 = len0 by omega, List.take_of_length_le (by omega)] at hs2
  have HST := Lib.hid hs2
  have HCH := Lib.hid hch
  have S1 := Lib.hid sR
  clear hRl hch oR sR h1 HSG hs2 hgl
  go_wp2_with fail
  refine HST.out.mono ?_
  rintro e w2 ⟨AQ, nQ, cQ, rfl, ⟨RQ, hRQ, oQ, sQ⟩, h2⟩
  have hQl : RQ.length = len0 := by have := congrArg List.length hRQ; rw [gs_len, HGL.out] at this; exact this
  obtain rfl : nQ = len0 := by rw [← hQl]; exact (Own.reads segC_len oQ).2.1
  have HRQ := Lib.hid hRQ
  obtain ⟨pn, hpn⟩ : ∃ pn, pos at_ (gs R) nQ = pn := ⟨_, rfl⟩
  rw [hpn]
  have M2 := Lib.hid (((((M1.out.own h2 oQ).alloc #[.int .u64 1, .int .u64 (pn : Int), .int .u64 at_, .slice AQ nQ cQ] 38).alloc' (b := w2.heap.size + 1) (by simp) #[.int .u64 1, .int .u64 at_, .slice none 0 0] 41).alloc' (b := w2.heap.size + 1 + 1) (by simp) #[.slice none 0 0, .bool false] 59).alloc' (b := w2.heap.size + 1 + 1 + 1) (by simp) #[.slice none 0 0, .bool false] 59)
  have hA2 := ((((Held.refl w2).alloc (.cells #[.int .u64 1, .int .u64 (pn : Int), .int .u64 at_, .slice AQ nQ cQ] 38)).alloc (.cells #[.int .u64 1, .int .u64 at_, .slice none 0 0] 41)).alloc (.cells #[.slice none 0 0, .bool false] 59)).alloc (.cells #[.slice none 0 0, .bool false] 59)
  have HALL := Lib.hid (⟨(S1.out.held h2).held hA2, sQ.held hA2, Sgs.nil _ _, Sgs.nil _ _, Ers.nil _ _⟩ : All _ R RQ [] [] [])
  have hsnd : sndAt at_ (gs R) 0 nQ = ⟨1, pn, at_, gs RQ⟩ := by rw [sndAt0, hpn, HRQ.out, List.take_of_length_le (by rw [HGL.out]; exact Nat.le_refl _)]
  have HPN := Lib.hid hpn
  have M3 := Lib.hid (((((M2.out.nilRow (e := 87) (s := 4) (f := erC)).nilRow (e := 32) (s := 3) (f := segC)).nilRow (e := 9) (s := 1) (f := stC)).nilRow (e := 9) (s := 1) (f := stC)).sel [0, 1, 2, 3, 6, 7, 4, 8, 5, 9] (by decide))
  have HD0 : Hid (DInv W at_ nQ cap pn w2.heap.size (w2.heap.size + 1) (w2.heap.size + 1 + 1) (w2.heap.size + 1 + 1 + 1) A R (.slice none 0 0) _) := ⟨0, 0, nQ, cQ, 0, 0, 0, 0, 0, 0, 0, 0, 1, at_, 1, at_, AQ, none, none, none, none, RQ, [], [], [], [], rfl, ⟨Nat.zero_le _, Nat.zero_le _, rfl, rfl, rfl, rfl, by omega, by omega, rfl, by omega, by omega, hsnd, EI.nil _ _ _ _, rfl, fun x h => by simp at h, fun x h => by simp at h, HALL.out, M3.out⟩⟩
  clear hQl hRQ oQ sQ h2 hA2 hsnd HST M1 S1 hpn HALL M2 M3 HRQ
  go_wp2
  obtain ⟨sb, hsb⟩ : ∃ sb, w2.heap.size = sb := ⟨_, rfl⟩
  obtain ⟨rb, hrb⟩ : ∃ rb, w2.heap.size + 1 = rb := ⟨_, rfl⟩
  obtain ⟨fb, hfb⟩ : ∃ fb, w2.heap.size + 1 + 1 = fb := ⟨_, rfl⟩
  obtain ⟨bb, hbb⟩ : ∃ bb, w2.heap.size + 1 + 1 + 1 = bb := ⟨_, rfl⟩
  rw [hbb, hfb, hrb, hsb] at HD0 ⊢
  clear hsb hrb hfb hbb
  go_loopw [13, 14] (fun v i wr => ∃ q : Nat, i = .int .i64 (q : Int) ∧ q ≤ len2 ∧ DInv W at_ nQ cap pn sb rb fb bb A R v wr) (fun _ i _ => len2 - (RowKit.intOf i).toNat)
  case atStart => exact ⟨0, rfl, Nat.zero_le _, HD0.out⟩
  case round =>
    obtain ⟨q, rfl, hq, a, K, nS, cQ2, nE, cE, nD, cD, nF, cF, nB, cB, b1, pa, k1, pK, AS, AE, AD, AF, AB, RS, RE, RD, FP, BP, rfl, hD⟩ := hrel
    have D := Lib.hid hD
    have M := Lib.hid hD.mem
    have HALL := Lib.hid hD.all
    have hK8 : K ≤ 8 := by have := hD.KN; omega
    clear hD HD0
    by_cases hlt : q < len2
    · obtain ⟨b, off, z, rfl, hb, hz, hc⟩ := in_at HO.out M.out.held (k := q) hlt
      have hzb := HOB.out z (List.mem_of_getElem? hz)
      have hzd := tdiv8_bd hzb.1 hzb.2
      have zl2 : (q : Int) < len2 := by omega
      have zl3 : (0 : Int) ≤ q := by omega
      have HR := Lib.hid fun w => Mk.round_any (z.tdiv 8) 9 hzd.1 hzd.2 (by omega) (by omega) w
      have hrb := Mk.round_bd (z.tdiv 8) 9 (by omega)
      have HT := Lib.hid fun w => Mk.round_any z 8 hzb.1 hzb.2 (by omega) (by omega) w
      have htb := Mk.round_bd z 8 (by omega)
      generalize Mk.round (z.tdiv 8) 9 = n9 at HR hrb
      generalize Mk.round z 8 = sw at HT htb
      obtain ⟨n9, rfl⟩ := Int.eq_ofNat_of_zero_le hrb.1
      have hn9 : n9 ≤ 8 := by omega
      have HZB := Lib.hid hzb
      have HCZ := Lib.hid hc
      have HBL : Hid (b < W.heap.size) := hb
      clear hz hrb hb
      go_wp2_with fail
      refine (HR.out _).mono ?_
      rintro e w5 ⟨rfl, rfl⟩
      clear HR hzd
      go_wp2_with fail
      refine (HT.out _).mono ?_
      rintro e w5 ⟨rfl, rfl⟩
      clear HT hc
      go_upto_block 2 with fail
      go_cut [13] (fun v wx => DInv W at_ nQ cap pn sb rb fb bb A R v wx)
      case first =>
        rcases (show sw = 0 ∨ sw = 1 ∨ sw = 2 ∨ sw = 3 ∨ sw = 4 ∨ sw = 5 ∨ sw = 6 ∨ sw = 7 by omega) with rfl | rfl | rfl | rfl | rfl | rfl | rfl | rfl
        · as_aux_lemma =>
            obtain ⟨⟨c0, c1, c2, c3⟩, _, cl⟩ := M.out.box4 2 rfl
            have hpk := packets_any b1 pn pa AS nS cQ2 RS 0 _ (Own.reads segC_len (M.out.row 1 rfl)).1 HALL.out.q (by have := D.out.nQ8; omega)
            rw [← D.out.snd] at hpk
            have hpm := pk_mem HCH.out (a := a) (p := nQ) (by have := D.out.aK; have := D.out.KN; omega) HGL.out.symm (by omega)
            unfold StrsTo at hpk
            generalize strs (packets (sndAt at_ (gs R) a nQ)) = PS at hpk hpm
            have HPK := Lib.hid hpk
            have HPM := Lib.hid hpm
            clear hpk hpm
            go_wp2_with fail
            refine HPK.out.mono ?_
            rintro e w4 ⟨AP, nP, cP, rfl, oP, h4⟩
            have M4 := Lib.hid (M.out.own h4 oP)
            have hPl := (own_args oP).2.2.2.2
            have HPL : Is PS.length nP := ⟨hPl⟩
            have M4A := Lib.hid (HALL.out.held h4)
            clear oP h4 HPK c0 c1 c2 c3 cl hPl
            by_cases hlt9 : n9 < nP
            · have z9 : (n9 : Int) < nP := by omega
              have z90 : (0 : Int) ≤ n9 := by omega
              obtain ⟨gP, xs, rfl, hgeP, hglP, hxP, hxcP⟩ := M4.out.slot 10 rfl stC_len (by decide) (k := n9) (by rw [HPL.out]; exact hlt9)
              have HQX := Lib.hid (HPM.out.2 xs (List.mem_of_getElem? hxP))
              have y0 := (hxcP 0 (by decide)).2 _ rfl
              simp only [Nat.mul_one, Nat.add_zero] at y0
              have HS := Lib.hid fun w' (k : Held w4 w') => lsend_q (M4.out.row 7 rfl) D.out.nF24 D.out.qf w' k xs HQX.out
              obtain ⟨⟨l0, l1⟩, ⟨lf0, lf1⟩, ll⟩ := M4.out.box2 6 rfl
              clear hgeP hxP hxcP
              go_wp2
              go_region_law (first
                | (go_simp; go_at_call 22; refine (HS.out _ (Held.refl w4).drew).mono ?_; rintro e w6 ⟨A5, n5, c5, o5, P5, rfl, hq5, hn5, oP5, h5⟩; have M6 := Lib.hid ((M4.out.drew).own h5 oP5); have M6A := Lib.hid ((M4A.out.held (Held.refl w4).drew).held h5); have HQ5 := Lib.hid hq5; have HN5 := Lib.hid hn5; obtain ⟨⟨t0, t1'⟩, ⟨tf0, tf1⟩, tl⟩ := M6.out.box2 6 rfl; clear hq5 hn5 oP5 h5))
              all_goals
                have MF := Lib.hid ((M6.out.put2 6 rfl (.slice A5 n5 c5) (.bool false)).sel [0, 1, 2, 3, 4, 5, 6, 11, 8, 9] (by decide))
                have AF8 := Lib.hid (M6A.out.put2 (Blk.of M6.out 6 rfl (by decide) (Nat.zero_le _)) (.slice A5 n5 c5) (.bool false))
                clear M6 M6A M4 M4A M HALL
                go_wp2
                go_meet
                case rel => exact ⟨a, K, nS, cQ2, nE, cE, nD, cD, n5, c5, nB, cB, b1, pa, k1, pK, AS, AE, AD, A5, AB, RS, RE, RD, P5, BP, rfl, ⟨D.out.aK, D.out.KN, D.out.b1e, D.out.pae, D.out.k1e, D.out.pKe, D.out.nQ8, D.out.nE8, D.out.nDK, HN5.out, D.out.nB24, D.out.snd, D.out.ei, D.out.got, HQ5.out, D.out.qb, AF8.out, MF.out⟩⟩
            · have z9 : ¬ (n9 : Int) < nP := by omega
              have MF := Lib.hid (M4.out.take 10)
              clear M HALL
              go_wp2
              go_meet
              case rel => exact ⟨a, K, nS, cQ2, nE, cE, nD, cD, nF, cF, nB, cB, b1, pa, k1, pK, AS, AE, AD, AF, AB, RS, RE, RD, FP, BP, rfl, ⟨D.out.aK, D.out.KN, D.out.b1e, D.out.pae, D.out.k1e, D.out.pKe, D.out.nQ8, D.out.nE8, D.out.nDK, D.out.nF24, D.out.nB24, D.out.snd, D.out.ei, D.out.got, D.out.qf, D.out.qb, M4A.out, MF.out⟩⟩
        · as_aux_lemma =>
            obtain ⟨⟨c0, c1, c2, c3⟩, _, cl⟩ := M.out.box4 2 rfl
            have hpk := packets_any b1 pn pa AS nS cQ2 RS 0 _ (Own.reads segC_len (M.out.row 1 rfl)).1 HALL.out.q (by have := D.out.nQ8; omega)
            rw [← D.out.snd] at hpk
            have hpm := pk_mem HCH.out (a := a) (p := nQ) (by have := D.out.aK; have := D.out.KN; omega) HGL.out.symm (by omega)
            unfold StrsTo at hpk
            generalize strs (packets (sndAt at_ (gs R) a nQ)) = PS at hpk hpm
            have HPK := Lib.hid hpk
            have HPM := Lib.hid hpm
            clear hpk hpm
            go_wp2_with fail
            refine HPK.out.mono ?_
            rintro e w4 ⟨AP, nP, cP, rfl, oP, h4⟩
            have M4 := Lib.hid (M.out.own h4 oP)
            have hPl := (own_args oP).2.2.2.2
            have HPL : Is PS.length nP := ⟨hPl⟩
            have M4A := Lib.hid (HALL.out.held h4)
            clear oP h4 HPK c0 c1 c2 c3 cl hPl
            by_cases hlt9 : n9 < nP
            · have z9 : (n9 : Int) < nP := by omega
              have z90 : (0 : Int) ≤ n9 := by omega
              obtain ⟨gP, xs, rfl, hgeP, hglP, hxP, hxcP⟩ := M4.out.slot 10 rfl stC_len (by decide) (k := n9) (by rw [HPL.out]; exact hlt9)
              have HQX := Lib.hid (HPM.out.2 xs (List.mem_of_getElem? hxP))
              have y0 := (hxcP 0 (by decide)).2 _ rfl
              simp only [Nat.mul_one, Nat.add_zero] at y0
              have HS := Lib.hid fun w' (k : Held w4 w') => lsend_q (M4.out.row 7 rfl) D.out.nF24 D.out.qf w' k xs HQX.out
              obtain ⟨⟨l0, l1⟩, ⟨lf0, lf1⟩, ll⟩ := M4.out.box2 6 rfl
              clear hgeP hxP hxcP
              go_wp2
              go_region_law (first
                | (go_simp; go_at_call 22; refine (HS.out _ (Held.refl w4).drew).mono ?_; rintro e w6 ⟨A5, n5, c5, o5, P5, rfl, hq5, hn5, oP5, h5⟩; have M6 := Lib.hid ((M4.out.drew).own h5 oP5); have M6A := Lib.hid ((M4A.out.held (Held.refl w4).drew).held h5); have HQ5 := Lib.hid hq5; have HN5 := Lib.hid hn5; obtain ⟨⟨t0, t1'⟩, ⟨tf0, tf1⟩, tl⟩ := M6.out.box2 6 rfl; clear hq5 hn5 oP5 h5))
              all_goals
                have MF := Lib.hid ((M6.out.put2 6 rfl (.slice A5 n5 c5) (.bool false)).sel [0, 1, 2, 3, 4, 5, 6, 11, 8, 9] (by decide))
                have AF8 := Lib.hid (M6A.out.put2 (Blk.of M6.out 6 rfl (by decide) (Nat.zero_le _)) (.slice A5 n5 c5) (.bool false))
                clear M6 M6A M4 M4A M HALL
                go_wp2
                go_meet
                case rel => exact ⟨a, K, nS, cQ2, nE, cE, nD, cD, n5, c5, nB, cB, b1, pa, k1, pK, AS, AE, AD, A5, AB, RS, RE, RD, P5, BP, rfl, ⟨D.out.aK, D.out.KN, D.out.b1e, D.out.pae, D.out.k1e, D.out.pKe, D.out.nQ8, D.out.nE8, D.out.nDK, HN5.out, D.out.nB24, D.out.snd, D.out.ei, D.out.got, HQ5.out, D.out.qb, AF8.out, MF.out⟩⟩
            · have z9 : ¬ (n9 : Int) < nP := by omega
              have MF := Lib.hid (M4.out.take 10)
              clear M HALL
              go_wp2
              go_meet
              case rel => exact ⟨a, K, nS, cQ2, nE, cE, nD, cD, nF, cF, nB, cB, b1, pa, k1, pK, AS, AE, AD, AF, AB, RS, RE, RD, FP, BP, rfl, ⟨D.out.aK, D.out.KN, D.out.b1e, D.out.pae, D.out.k1e, D.out.pKe, D.out.nQ8, D.out.nE8, D.out.nDK, D.out.nF24, D.out.nB24, D.out.snd, D.out.ei, D.out.got, D.out.qf, D.out.qb, M4A.out, MF.out⟩⟩
        · as_aux_lemma =>
            obtain ⟨⟨c0, c1⟩, _, cl⟩ := M.out.box2 6 rfl
            have HDL := Lib.hid (ldeliver_q (M.out.row 7 rfl) D.out.nF24 D.out.qf n9 (by omega) _ (Held.refl _))
            go_wp2_with fail
            refine HDL.out.mono ?_
            rintro e w5 ⟨A5, n5, c5, s5, ok5, P5, rfl, hq5, hs5, hn5, oP5, h5⟩
            have M5 := Lib.hid ((M.out.own h5 oP5).alloc #[.slice A5 n5 c5, .bool false] 59)
            have M5A := Lib.hid ((HALL.out.held h5).held ((Held.refl w5).alloc (.cells #[.slice A5 n5 c5, .bool false] 59)))
            have HQ5 := Lib.hid hq5
            have HN5 : Hid (n5 ≤ 24) := hn5
            clear hq5 oP5 h5 HDL c0 c1 cl hn5
            cases ok5 with
            | false =>
              have MF := Lib.hid (M5.out.take 10)
              clear M HALL hs5
              go_wp2
              go_meet
              case rel => exact ⟨a, K, nS, cQ2, nE, cE, nD, cD, nF, cF, nB, cB, b1, pa, k1, pK, AS, AE, AD, AF, AB, RS, RE, RD, FP, BP, rfl, ⟨D.out.aK, D.out.KN, D.out.b1e, D.out.pae, D.out.k1e, D.out.pKe, D.out.nQ8, D.out.nE8, D.out.nDK, D.out.nF24, D.out.nB24, D.out.snd, D.out.ei, D.out.got, D.out.qf, D.out.qb, M5A.out, MF.out⟩⟩
            | true =>
              have HQS := Lib.hid (hs5 rfl)
              have HSZ : Hid ((s5.size : Int) ≤ 1000000000000) := by have := (HQS.out.size (by rw [HGL.out]; omega) HCH.out.inn).2; unfold Hid; omega
              clear hs5
              obtain ⟨K', E', ok', hK1, hK2, hEI', htk⟩ := take_step HCH.out D.out.ei (by omega) HGL.out.symm D.out.KN (s := s5) (.inl HQS.out)
              obtain ⟨k2, hk2⟩ : ∃ k2, K' + 1 = k2 := ⟨_, rfl⟩
              obtain ⟨p2, hp2⟩ : ∃ p2, pos at_ (gs R) K' = p2 := ⟨_, rfl⟩
              have hr0 : rcvAt at_ (gs R) K (ers RE) = ⟨k1, pK, ers RE⟩ := by unfold rcvAt; rw [D.out.k1e, D.out.pKe]
              have hr1 : rcvAt at_ (gs R) K' E' = ⟨k2, p2, E'⟩ := by unfold rcvAt; rw [hk2, hp2]
              rw [hr0, hr1] at htk
              have ht := take_any k1 pK AE nE cE RE s5 0 _ (Nat.zero_le _) (Own.reads erC_len (M5.out.row 4 rfl)).1 M5A.out.e D.out.nE8 HSZ.out
              rw [htk] at ht
              have HT := Lib.hid ht
              have HEI2 := Lib.hid hEI'
              have HK2 : Is k2 (K' + 1) := ⟨hk2.symm⟩
              have HP2 : Is p2 (pos at_ (gs R) K') := ⟨hp2.symm⟩
              have HKK : Hid (K ≤ K' ∧ K' ≤ nQ) := ⟨hK1, hK2⟩
              clear hEI' htk hr0 hr1 ht hk2 hp2 hK1 hK2
              obtain ⟨⟨r0, r1, r2⟩, _, rl⟩ := M5.out.box3 3 rfl
              go_wp2_with fail
              refine HT.out.mono ?_
              rintro e w6 ⟨A4, n4, c4, DA, dn, dc, R4, D4, rfl, hR4, hD4, hM6, hE6, hD6⟩
              dsimp only at hR4 hD4 ⊢
              have HR4 := Lib.hid hR4
              have HD4 := Lib.hid hD4
              have MX := Lib.hid ((M5.out.two hM6).alloc #[.int .u64 (k2 : Int), .int .u64 (p2 : Int), .slice A4 n4 c4] 41)
              have AX := Lib.hid ((M5A.out.rcv hM6.held hE6 hD6).held ((Held.refl w6).alloc (.cells #[.int .u64 (k2 : Int), .int .u64 (p2 : Int), .slice A4 n4 c4] 41)))
              clear hR4 hD4 hM6 hE6 hD6 HT r0 r1 r2 rl
              have HF : Hid (a ≤ K' ∧ K' ≤ nQ ∧ b1 = a + 1 ∧ pa = pos at_ (gs R) a ∧ k2 = K' + 1 ∧ p2 = pos at_ (gs R) K' ∧ nS ≤ 8 ∧ n4 ≤ 1000000 ∧ nD + dn = K' ∧ n5 ≤ 24 ∧ nB ≤ 24 ∧ sndAt at_ (gs R) a nQ = ⟨b1, pn, pa, gs RS⟩ ∧ EI at_ (gs R) K' nQ (ers R4) ∧ gs (RD ++ D4) = (gs R).take K' ∧ (∀ x ∈ P5, QF (gs R) x) ∧ ∀ x ∈ BP, QB at_ (gs R) K' x) := by
                have hgs := got_step HKK.out.1 D.out.got HD4.out
                have hei : EI at_ (gs R) K' nQ (ers R4) := by rw [HR4.out]; exact HEI2.out
                have h4 := ei_len hei (by omega)
                have h5 := (Own.reads erC_len (MX.out.row 12 rfl)).2.1
                rw [ers_len] at h4
                have h6 := congrArg List.length hgs
                have h7 := (Own.reads segC_len (MX.out.row 5 rfl)).2.1
                have h8 := (Own.reads segC_len (MX.out.row 13 rfl)).2.1
                rw [gs_len, List.length_append, List.length_take, HGL.out] at h6
                have h9 := HKK.out
                exact ⟨Nat.le_trans D.out.aK h9.1, h9.2, D.out.b1e, D.out.pae, HK2.out, HP2.out, D.out.nQ8, by omega, by omega, HN5.out, D.out.nB24, D.out.snd, hei, hgs, HQ5.out, fun x hx => (D.out.qb x hx).mono h9.1⟩
              have SLX := Lib.hid (Own.reads segC_len (MX.out.row 13 rfl)).1
              have hdn : dn ≤ 8 := by
                have h1 := (Own.reads segC_len (MX.out.row 13 rfl)).2.1
                have h2 := congrArg List.length HD4.out
                rw [gs_len, List.length_take] at h2
                have h3 := HKK.out
                omega
              have HBD : Hid ((nD + dn) * 40 ≤ 140737488355328) := by have := D.out.nDK; unfold Hid; omega
              obtain ⟨⟨e0, e1, e2⟩, _, el⟩ := MX.out.box3 14 rfl
              obtain ⟨⟨y0, y1⟩, _, yl⟩ := MX.out.box2 11 rfl
              obtain ⟨⟨r0, r1, r2⟩, ⟨rf0, rf1, rf2⟩, rl⟩ := MX.out.box3 3 rfl
              obtain ⟨⟨l0, l1⟩, ⟨lf0, lf1⟩, ll⟩ := MX.out.box2 6 rfl
              have ne1 := MX.out.ne 3 14 rfl rfl (by decide)
              have ne2 := MX.out.ne 14 3 rfl rfl (by decide)
              have ne3 := MX.out.ne 3 11 rfl rfl (by decide)
              have ne4 := MX.out.ne 11 3 rfl rfl (by decide)
              have ne5 := MX.out.ne 6 14 rfl rfl (by decide)
              have ne6 := MX.out.ne 14 6 rfl rfl (by decide)
              have ne7 := MX.out.ne 6 11 rfl rfl (by decide)
              have ne8 := MX.out.ne 11 6 rfl rfl (by decide)
              have ne9 := MX.out.ne 3 6 rfl rfl (by decide)
              have ne0 := MX.out.ne 6 3 rfl rfl (by decide)
              have HDL : Is RD.length nD := ⟨((Own.reads segC_len (MX.out.row 5 rfl)).2.1).symm⟩
              clear M D HALL
              go_upto_region 29 with fail
              go_region_law (first
                | (refine Mem.step_catC MX.out.drew 5 rfl (by rfl) _ _ _ (by rfl) _ 40 Try.underlying25 info_seg (by rfl) (by decide) segC_len segC_one D4 DA dn dc (by rfl) (by rfl) (SLX.out.held (Held.refl _).drew) HDL.out HBD.out (by decide) ?_; intro A8 c8 w8 M8' k8; have M8X := Lib.hid M8'; have A8X := Lib.hid ((AX.out.held (Held.refl _).drew).chg (k8 106 0 (by decide) (Nat.zero_le _))); obtain ⟨⟨e0, e1, e2⟩, _, el⟩ := M8'.box3 14 rfl; obtain ⟨⟨y0, y1⟩, _, yl⟩ := M8'.box2 11 rfl; obtain ⟨⟨r0, r1, r2⟩, ⟨rf0, rf1, rf2⟩, rl⟩ := M8'.box3 3 rfl; obtain ⟨⟨l0, l1⟩, ⟨lf0, lf1⟩, ll⟩ := M8'.box2 6 rfl; clear M8' k8))
              all_goals
                have MF2 := M8X.out.put2 6 rfl (.slice A5 n5 c5) (.bool false)
                have MF := Lib.hid ((MF2.put3 3 rfl (.int .u64 (k2 : Int)) (.int .u64 (p2 : Int)) (.slice A4 n4 c4)).sel [0, 1, 2, 3, 12, 5, 6, 10, 8, 9] (by decide))
                have AF8 := Lib.hid ((A8X.out.put2 (Blk.of M8X.out 6 rfl (by decide) (Nat.zero_le _)) (.slice A5 n5 c5) (.bool false)).put3 (Blk.of MF2 3 rfl (by decide) (Nat.zero_le _)) (.int .u64 (k2 : Int)) (.int .u64 (p2 : Int)) (.slice A4 n4 c4))
                clear MF2 M8X A8X MX AX
                go_wp2
                go_meet
                case rel => exact ⟨a, K', nS, cQ2, n4, c4, nD + dn, c8, n5, c5, nB, cB, b1, pa, k2, p2, AS, A4, A8, A5, AB, RS, R4, RD ++ D4, P5, BP, rfl, ⟨HF.out.1, HF.out.2.1, HF.out.2.2.1, HF.out.2.2.2.1, HF.out.2.2.2.2.1, HF.out.2.2.2.2.2.1, HF.out.2.2.2.2.2.2.1, HF.out.2.2.2.2.2.2.2.1 , HF.out.2.2.2.2.2.2.2.2.1 , HF.out.2.2.2.2.2.2.2.2.2.1, HF.out.2.2.2.2.2.2.2.2.2.2.1, HF.out.2.2.2.2.2.2.2.2.2.2.2.1, HF.out.2.2.2.2.2.2.2.2.2.2.2.2.1, HF.out.2.2.2.2.2.2.2.2.2.2.2.2.2.1, HF.out.2.2.2.2.2.2.2.2.2.2.2.2.2.2.1, HF.out.2.2.2.2.2.2.2.2.2.2.2.2.2.2.2, AF8.out.cat, MF.out⟩⟩
        · as_aux_lemma =>
            obtain ⟨⟨c0, c1⟩, _, cl⟩ := M.out.box2 6 rfl
            have HDL := Lib.hid (ldeliver_q (M.out.row 7 rfl) D.out.nF24 D.out.qf n9 (by omega) _ (Held.refl _))
            go_wp2_with fail
            refine HDL.out.mono ?_
            rintro e w5 ⟨A5, n5, c5, s5, ok5, P5, rfl, hq5, hs5, hn5, oP5, h5⟩
            have M5 := Lib.hid ((M.out.own h5 oP5).alloc #[.slice A5 n5 c5, .bool false] 59)
            have M5A := Lib.hid ((HALL.out.held h5).held ((Held.refl w5).alloc (.cells #[.slice A5 n5 c5, .bool false] 59)))
            have HQ5 := Lib.hid hq5
            have HN5 : Hid (n5 ≤ 24) := hn5
            clear hq5 oP5 h5 HDL c0 c1 cl hn5
            cases ok5 with
            | false =>
              have MF := Lib.hid (M5.out.take 10)
              clear M HALL hs5
              go_wp2
              go_meet
              case rel => exact ⟨a, K, nS, cQ2, nE, cE, nD, cD, nF, cF, nB, cB, b1, pa, k1, pK, AS, AE, AD, AF, AB, RS, RE, RD, FP, BP, rfl, ⟨D.out.aK, D.out.KN, D.out.b1e, D.out.pae, D.out.k1e, D.out.pKe, D.out.nQ8, D.out.nE8, D.out.nDK, D.out.nF24, D.out.nB24, D.out.snd, D.out.ei, D.out.got, D.out.qf, D.out.qb, M5A.out, MF.out⟩⟩
            | true =>
              have HQS := Lib.hid (hs5 rfl)
              have HSZ : Hid ((s5.size : Int) ≤ 1000000000000) := by have := (HQS.out.size (by rw [HGL.out]; omega) HCH.out.inn).2; unfold Hid; omega
              clear hs5
              obtain ⟨K', E', ok', hK1, hK2, hEI', htk⟩ := take_step HCH.out D.out.ei (by omega) HGL.out.symm D.out.KN (s := s5) (.inl HQS.out)
              obtain ⟨k2, hk2⟩ : ∃ k2, K' + 1 = k2 := ⟨_, rfl⟩
              obtain ⟨p2, hp2⟩ : ∃ p2, pos at_ (gs R) K' = p2 := ⟨_, rfl⟩
              have hr0 : rcvAt at_ (gs R) K (ers RE) = ⟨k1, pK, ers RE⟩ := by unfold rcvAt; rw [D.out.k1e, D.out.pKe]
              have hr1 : rcvAt at_ (gs R) K' E' = ⟨k2, p2, E'⟩ := by unfold rcvAt; rw [hk2, hp2]
              rw [hr0, hr1] at htk
              have ht := take_any k1 pK AE nE cE RE s5 0 _ (Nat.zero_le _) (Own.reads erC_len (M5.out.row 4 rfl)).1 M5A.out.e D.out.nE8 HSZ.out
              rw [htk] at ht
              have HT := Lib.hid ht
              have HEI2 := Lib.hid hEI'
              have HK2 : Is k2 (K' + 1) := ⟨hk2.symm⟩
              have HP2 : Is p2 (pos at_ (gs R) K') := ⟨hp2.symm⟩
              have HKK : Hid (K ≤ K' ∧ K' ≤ nQ) := ⟨hK1, hK2⟩
              clear hEI' htk hr0 hr1 ht hk2 hp2 hK1 hK2
              obtain ⟨⟨r0, r1, r2⟩, _, rl⟩ := M5.out.box3 3 rfl
              go_wp2_with fail
              refine HT.out.mono ?_
              rintro e w6 ⟨A4, n4, c4, DA, dn, dc, R4, D4, rfl, hR4, hD4, hM6, hE6, hD6⟩
              dsimp only at hR4 hD4 ⊢
              have HR4 := Lib.hid hR4
              have HD4 := Lib.hid hD4
              have MX := Lib.hid ((M5.out.two hM6).alloc #[.int .u64 (k2 : Int), .int .u64 (p2 : Int), .slice A4 n4 c4] 41)
              have AX := Lib.hid ((M5A.out.rcv hM6.held hE6 hD6).held ((Held.refl w6).alloc (.cells #[.int .u64 (k2 : Int), .int .u64 (p2 : Int), .slice A4 n4 c4] 41)))
              clear hR4 hD4 hM6 hE6 hD6 HT r0 r1 r2 rl
              have HF : Hid (a ≤ K' ∧ K' ≤ nQ ∧ b1 = a + 1 ∧ pa = pos at_ (gs R) a ∧ k2 = K' + 1 ∧ p2 = pos at_ (gs R) K' ∧ nS ≤ 8 ∧ n4 ≤ 1000000 ∧ nD + dn = K' ∧ n5 ≤ 24 ∧ nB ≤ 24 ∧ sndAt at_ (gs R) a nQ = ⟨b1, pn, pa, gs RS⟩ ∧ EI at_ (gs R) K' nQ (ers R4) ∧ gs (RD ++ D4) = (gs R).take K' ∧ (∀ x ∈ P5, QF (gs R) x) ∧ ∀ x ∈ BP, QB at_ (gs R) K' x) := by
                have hgs := got_step HKK.out.1 D.out.got HD4.out
                have hei : EI at_ (gs R) K' nQ (ers R4) := by rw [HR4.out]; exact HEI2.out
                have h4 := ei_len hei (by omega)
                have h5 := (Own.reads erC_len (MX.out.row 12 rfl)).2.1
                rw [ers_len] at h4
                have h6 := congrArg List.length hgs
                have h7 := (Own.reads segC_len (MX.out.row 5 rfl)).2.1
                have h8 := (Own.reads segC_len (MX.out.row 13 rfl)).2.1
                rw [gs_len, List.length_append, List.length_take, HGL.out] at h6
                have h9 := HKK.out
                exact ⟨Nat.le_trans D.out.aK h9.1, h9.2, D.out.b1e, D.out.pae, HK2.out, HP2.out, D.out.nQ8, by omega, by omega, HN5.out, D.out.nB24, D.out.snd, hei, hgs, HQ5.out, fun x hx => (D.out.qb x hx).mono h9.1⟩
              have SLX := Lib.hid (Own.reads segC_len (MX.out.row 13 rfl)).1
              have hdn : dn ≤ 8 := by
                have h1 := (Own.reads segC_len (MX.out.row 13 rfl)).2.1
                have h2 := congrArg List.length HD4.out
                rw [gs_len, List.length_take] at h2
                have h3 := HKK.out
                omega
              have HBD : Hid ((nD + dn) * 40 ≤ 140737488355328) := by have := D.out.nDK; unfold Hid; omega
              obtain ⟨⟨e0, e1, e2⟩, _, el⟩ := MX.out.box3 14 rfl
              obtain ⟨⟨y0, y1⟩, _, yl⟩ := MX.out.box2 11 rfl
              obtain ⟨⟨r0, r1, r2⟩, ⟨rf0, rf1, rf2⟩, rl⟩ := MX.out.box3 3 rfl
              obtain ⟨⟨l0, l1⟩, ⟨lf0, lf1⟩, ll⟩ := MX.out.box2 6 rfl
              have ne1 := MX.out.ne 3 14 rfl rfl (by decide)
              have ne2 := MX.out.ne 14 3 rfl rfl (by decide)
              have ne3 := MX.out.ne 3 11 rfl rfl (by decide)
              have ne4 := MX.out.ne 11 3 rfl rfl (by decide)
              have ne5 := MX.out.ne 6 14 rfl rfl (by decide)
              have ne6 := MX.out.ne 14 6 rfl rfl (by decide)
              have ne7 := MX.out.ne 6 11 rfl rfl (by decide)
              have ne8 := MX.out.ne 11 6 rfl rfl (by decide)
              have ne9 := MX.out.ne 3 6 rfl rfl (by decide)
              have ne0 := MX.out.ne 6 3 rfl rfl (by decide)
              have HDL : Is RD.length nD := ⟨((Own.reads segC_len (MX.out.row 5 rfl)).2.1).symm⟩
              clear M D HALL
              go_upto_region 29 with fail
              go_region_law (first
                | (refine Mem.step_catC MX.out.drew 5 rfl (by rfl) _ _ _ (by rfl) _ 40 Try.underlying25 info_seg (by rfl) (by decide) segC_len segC_one D4 DA dn dc (by rfl) (by rfl) (SLX.out.held (Held.refl _).drew) HDL.out HBD.out (by decide) ?_; intro A8 c8 w8 M8' k8; have M8X := Lib.hid M8'; have A8X := Lib.hid ((AX.out.held (Held.refl _).drew).chg (k8 106 0 (by decide) (Nat.zero_le _))); obtain ⟨⟨e0, e1, e2⟩, _, el⟩ := M8'.box3 14 rfl; obtain ⟨⟨y0, y1⟩, _, yl⟩ := M8'.box2 11 rfl; obtain ⟨⟨r0, r1, r2⟩, ⟨rf0, rf1, rf2⟩, rl⟩ := M8'.box3 3 rfl; obtain ⟨⟨l0, l1⟩, ⟨lf0, lf1⟩, ll⟩ := M8'.box2 6 rfl; clear M8' k8))
              all_goals
                have MF2 := M8X.out.put2 6 rfl (.slice A5 n5 c5) (.bool false)
                have MF := Lib.hid ((MF2.put3 3 rfl (.int .u64 (k2 : Int)) (.int .u64 (p2 : Int)) (.slice A4 n4 c4)).sel [0, 1, 2, 3, 12, 5, 6, 10, 8, 9] (by decide))
                have AF8 := Lib.hid ((A8X.out.put2 (Blk.of M8X.out 6 rfl (by decide) (Nat.zero_le _)) (.slice A5 n5 c5) (.bool false)).put3 (Blk.of MF2 3 rfl (by decide) (Nat.zero_le _)) (.int .u64 (k2 : Int)) (.int .u64 (p2 : Int)) (.slice A4 n4 c4))
                clear MF2 M8X A8X MX AX
                go_wp2
                go_meet
                case rel => exact ⟨a, K', nS, cQ2, n4, c4, nD + dn, c8, n5, c5, nB, cB, b1, pa, k2, p2, AS, A4, A8, A5, AB, RS, R4, RD ++ D4, P5, BP, rfl, ⟨HF.out.1, HF.out.2.1, HF.out.2.2.1, HF.out.2.2.2.1, HF.out.2.2.2.2.1, HF.out.2.2.2.2.2.1, HF.out.2.2.2.2.2.2.1, HF.out.2.2.2.2.2.2.2.1 , HF.out.2.2.2.2.2.2.2.2.1 , HF.out.2.2.2.2.2.2.2.2.2.1, HF.out.2.2.2.2.2.2.2.2.2.2.1, HF.out.2.2.2.2.2.2.2.2.2.2.2.1, HF.out.2.2.2.2.2.2.2.2.2.2.2.2.1, HF.out.2.2.2.2.2.2.2.2.2.2.2.2.2.1, HF.out.2.2.2.2.2.2.2.2.2.2.2.2.2.2.1, HF.out.2.2.2.2.2.2.2.2.2.2.2.2.2.2.2, AF8.out.cat, MF.out⟩⟩
        · as_aux_lemma =>
            obtain ⟨⟨r0, r1, r2⟩, _, rl⟩ := M.out.box3 3 rfl
            obtain ⟨⟨l0, l1⟩, ⟨lf0, lf1⟩, ll⟩ := M.out.box2 8 rfl
            have hpl := HCH.out.lt (by omega) (i := K) (by rw [HGL.out]; exact D.out.KN)
            have hrp := fun (w' : World) (k : Held wr w') => reply_any k1 pK AE nE cE RE 0 w' ((Own.reads erC_len (M.out.row 4 rfl)).1.held k) (HALL.out.e.held k) D.out.nE8 (by have := D.out.k1e; omega) (by have := D.out.pKe; omega)
            have hr0 : rcvAt at_ (gs R) K (ers RE) = ⟨k1, pK, ers RE⟩ := by unfold rcvAt; rw [D.out.k1e, D.out.pKe]
            rw [← hr0, reply_at HCH.out D.out.ei (by omega) (by omega)] at hrp
            have HQB : Hid (QB at_ (gs R) K ⟨(ackP (K + 1) (pos at_ (gs R) K)).toArray⟩) := ⟨K, Nat.le_refl _, by simp⟩
            unfold MakesS at hrp
            generalize (⟨(ackP (K + 1) (pos at_ (gs R) K)).toArray⟩ : ByteArray) = ak at hrp HQB
            have HRP := Lib.hid hrp
            have HS := Lib.hid fun w' (k : Held wr w') => lsend_q (M.out.row 9 rfl) D.out.nB24 D.out.qb w' k ak HQB.out
            clear hrp hr0 hpl
            go_wp2
            go_region_law (first
              | (go_simp; go_at_call 22; refine (HS.out _ K8.out).mono ?_; rintro e w6 ⟨A5, n5, c5, o5, P5, rfl, hq5, hn5, oP5, h5⟩; have M6 := Lib.hid ((M.out.keep K8.out).own h5 oP5); have M6A := Lib.hid ((HALL.out.held K8.out).held h5); have HQ5 := Lib.hid hq5; have HN5 := Lib.hid hn5; obtain ⟨⟨t0, t1'⟩, ⟨tf0, tf1⟩, tl⟩ := M6.out.box2 8 rfl; clear hq5 hn5 oP5 h5)
              | (go_simp; go_at_call 18; refine (HRP.out _ (Held.refl wr).drew).mono ?_; rintro e w8 ⟨rfl, h8⟩; have K8 := Lib.hid ((Held.refl wr).drew.step h8); obtain ⟨⟨l0', l1'⟩, ⟨lf0', lf1'⟩, ll'⟩ := (M.out.keep K8.out).box2 8 rfl; clear h8))
            all_goals
              have MF := Lib.hid ((M6.out.put2 8 rfl (.slice A5 n5 c5) (.bool false)).sel [0, 1, 2, 3, 4, 5, 6, 7, 8, 10] (by decide))
              have AF8 := Lib.hid (M6A.out.put2 (Blk.of M6.out 8 rfl (by decide) (Nat.zero_le _)) (.slice A5 n5 c5) (.bool false))
              clear M6 M6A M HALL
              go_wp2
              go_meet
              case rel => exact ⟨a, K, nS, cQ2, nE, cE, nD, cD, nF, cF, n5, c5, b1, pa, k1, pK, AS, AE, AD, AF, A5, RS, RE, RD, FP, P5, rfl, ⟨D.out.aK, D.out.KN, D.out.b1e, D.out.pae, D.out.k1e, D.out.pKe, D.out.nQ8, D.out.nE8, D.out.nDK, D.out.nF24, HN5.out, D.out.snd, D.out.ei, D.out.got, D.out.qf, HQ5.out, AF8.out, MF.out⟩⟩
        · as_aux_lemma =>
            obtain ⟨⟨c0, c1⟩, _, cl⟩ := M.out.box2 8 rfl
            have HDL := Lib.hid (ldeliver_q (M.out.row 9 rfl) D.out.nB24 D.out.qb n9 (by omega) _ (Held.refl _))
            go_wp2_with fail
            refine HDL.out.mono ?_
            rintro e w5 ⟨A5, n5, c5, s5, ok5, P5, rfl, hq5, hs5, hn5, oP5, h5⟩
            have M5 := Lib.hid ((M.out.own h5 oP5).alloc #[.slice A5 n5 c5, .bool false] 59)
            have M5A := Lib.hid ((HALL.out.held h5).held ((Held.refl w5).alloc (.cells #[.slice A5 n5 c5, .bool false] 59)))
            have HQ5 := Lib.hid hq5
            have HN5 : Hid (n5 ≤ 24) := hn5
            clear hq5 oP5 h5 HDL c0 c1 cl hn5
            cases ok5 with
            | false =>
              have MF := Lib.hid (M5.out.take 10)
              clear M HALL hs5
              go_wp2
              go_meet
              case rel => exact ⟨a, K, nS, cQ2, nE, cE, nD, cD, nF, cF, nB, cB, b1, pa, k1, pK, AS, AE, AD, AF, AB, RS, RE, RD, FP, BP, rfl, ⟨D.out.aK, D.out.KN, D.out.b1e, D.out.pae, D.out.k1e, D.out.pKe, D.out.nQ8, D.out.nE8, D.out.nDK, D.out.nF24, D.out.nB24, D.out.snd, D.out.ei, D.out.got, D.out.qf, D.out.qb, M5A.out, MF.out⟩⟩
            | true =>
              have hQS := hs5 rfl
              have hsz := QB.size HCH.out (by omega) (by rw [HGL.out]; exact D.out.KN) (by rw [HGL.out]; omega) hQS
              obtain ⟨a', ok', haK', hak⟩ := ack_step HCH.out (by omega) D.out.aK D.out.KN HGL.out.symm (by omega) hQS
              obtain ⟨b2, hb2⟩ : ∃ b2, a' + 1 = b2 := ⟨_, rfl⟩
              obtain ⟨p2, hp2⟩ : ∃ p2, pos at_ (gs R) a' = p2 := ⟨_, rfl⟩
              have hsn : sndAt at_ (gs R) a' nQ = ⟨b2, pn, p2, ((gs R).drop a').take (nQ - a')⟩ := by unfold sndAt; rw [hb2, hp2, HPN.out]
              obtain ⟨GQ, hGQ⟩ : ∃ GQ, ((gs R).drop a').take (nQ - a') = GQ := ⟨_, rfl⟩
              rw [hGQ] at hsn
              have hac := acked_any b1 pn pa AS nS cQ2 RS s5 0 _ (Nat.zero_le _) (Own.reads segC_len (M5.out.row 1 rfl)).1 M5A.out.q (by have := D.out.nQ8; omega) (by omega)
              rw [← D.out.snd, hak, hsn] at hac
              have HAC := Lib.hid hac
              have HSN := Lib.hid hsn
              have HAK : Hid (a' ≤ K) := haK'
              have HB2 : Is b2 (a' + 1) := ⟨hb2.symm⟩
              have HP2 : Is p2 (pos at_ (gs R) a') := ⟨hp2.symm⟩
              have HGQL : Hid (GQ.length ≤ 8) := by rw [← hGQ, List.length_take]; unfold Hid; omega
              obtain ⟨⟨s0, s1, s2, s3⟩, _, sl⟩ := M5.out.box4 2 rfl
              clear hs5 hQS hsz haK' hak hb2 hp2 hsn hGQ hac
              go_wp2_with fail
              refine HAC.out.mono ?_
              rintro e w6 ⟨A6, n6, c6, rfl, ⟨R6, hR6, oR6, sR6⟩, h6⟩
              dsimp only at hR6 ⊢
              have HR6 := Lib.hid hR6
              have MX := Lib.hid ((M5.out.own h6 oR6).alloc #[.int .u64 (b2 : Int), .int .u64 (pn : Int), .int .u64 (p2 : Int), .slice A6 n6 c6] 38)
              have AX := Lib.hid ((M5A.out.snd h6 sR6).held ((Held.refl w6).alloc (.cells #[.int .u64 (b2 : Int), .int .u64 (pn : Int), .int .u64 (p2 : Int), .slice A6 n6 c6] 38)))
              have HN6 : Hid (n6 ≤ 8) := by
                have h1 := (Own.reads segC_len oR6).2.1
                have h2 := congrArg List.length hR6
                rw [gs_len] at h2
                have := HGQL.out
                unfold Hid; omega
              clear hR6 oR6 sR6 h6 HAC s0 s1 s2 s3 sl
              obtain ⟨⟨e0, e1, e2, e3⟩, _, el⟩ := MX.out.box4 13 rfl
              obtain ⟨⟨y0, y1⟩, _, yl⟩ := MX.out.box2 11 rfl
              obtain ⟨⟨s0, s1, s2, s3⟩, ⟨sf0, sf1, sf2, sf3⟩, sl⟩ := MX.out.box4 2 rfl
              obtain ⟨⟨l0, l1⟩, ⟨lf0, lf1⟩, ll⟩ := MX.out.box2 8 rfl
              have ne1 := MX.out.ne 2 13 rfl rfl (by decide)
              have ne2 := MX.out.ne 13 2 rfl rfl (by decide)
              have ne3 := MX.out.ne 2 11 rfl rfl (by decide)
              have ne4 := MX.out.ne 11 2 rfl rfl (by decide)
              have ne5 := MX.out.ne 8 13 rfl rfl (by decide)
              have ne6 := MX.out.ne 13 8 rfl rfl (by decide)
              have ne7 := MX.out.ne 8 11 rfl rfl (by decide)
              have ne8 := MX.out.ne 11 8 rfl rfl (by decide)
              have ne9 := MX.out.ne 2 8 rfl rfl (by decide)
              have ne0 := MX.out.ne 8 2 rfl rfl (by decide)
              have MF1 := MX.out.put2 8 rfl (.slice A5 n5 c5) (.bool false)
              have MF2 := MX.out.put4 2 rfl (.int .u64 (b2 : Int)) (.int .u64 (pn : Int)) (.int .u64 (p2 : Int)) (.slice A6 n6 c6)
              have AF1 := AX.out.put2 (Blk.of MX.out 8 rfl (by decide) (Nat.zero_le _)) (.slice A5 n5 c5) (.bool false)
              have AF2 := AX.out.put4 (Blk.of MX.out 2 rfl (by decide) (Nat.zero_le _)) (.int .u64 (b2 : Int)) (.int .u64 (pn : Int)) (.int .u64 (p2 : Int)) (.slice A6 n6 c6)
              have MFa := Lib.hid (((MF1.put4 2 rfl (.int .u64 (b2 : Int)) (.int .u64 (pn : Int)) (.int .u64 (p2 : Int)) (.slice A6 n6 c6)).sel [0, 12, 2, 3, 4, 5, 6, 7, 8, 10] (by decide)).drew)
              have MFb := Lib.hid (((MF2.put2 8 rfl (.slice A5 n5 c5) (.bool false)).sel [0, 12, 2, 3, 4, 5, 6, 7, 8, 10] (by decide)).drew)
              have AFa := Lib.hid ((AF1.put4 (Blk.of MF1 2 rfl (by decide) (Nat.zero_le _)) (.int .u64 (b2 : Int)) (.int .u64 (pn : Int)) (.int .u64 (p2 : Int)) (.slice A6 n6 c6)).held (Held.refl _).drew)
              have AFb := Lib.hid ((AF2.put2 (Blk.of MF2 8 rfl (by decide) (Nat.zero_le _)) (.slice A5 n5 c5) (.bool false)).held (Held.refl _).drew)
              have HF : Hid (a' ≤ K ∧ K ≤ nQ ∧ b2 = a' + 1 ∧ p2 = pos at_ (gs R) a' ∧ k1 = K + 1 ∧ pK = pos at_ (gs R) K ∧ n6 ≤ 8 ∧ nE ≤ 1000000 ∧ nD = K ∧ nF ≤ 24 ∧ n5 ≤ 24 ∧ sndAt at_ (gs R) a' nQ = ⟨b2, pn, p2, gs R6⟩ ∧ EI at_ (gs R) K nQ (ers RE) ∧ gs RD = (gs R).take K ∧ (∀ x ∈ FP, QF (gs R) x) ∧ ∀ x ∈ P5, QB at_ (gs R) K x) :=
                ⟨HAK.out, D.out.KN, HB2.out, HP2.out, D.out.k1e, D.out.pKe, HN6.out, D.out.nE8, D.out.nDK, D.out.nF24, HN5.out, by rw [HSN.out, HR6.out], D.out.ei, D.out.got, D.out.qf, HQ5.out⟩
              clear M HALL D MF1 MF2 AF1 AF2
              go_wp2
              go_region
              all_goals
                go_wp2
                go_meet
                case rel =>
                  obtain ⟨f1, f2, f3, f4, f5, f6, f7, f8, f9, f10, f11, f12, f13, f14, f15, f16⟩ := HF.out
                  first
                  | exact ⟨a', K, n6, c6, nE, cE, nD, cD, nF, cF, n5, c5, b2, p2, k1, pK, A6, AE, AD, AF, A5, R6, RE, RD, FP, P5, rfl, ⟨f1, f2, f3, f4, f5, f6, f7, f8, f9, f10, f11, f12, f13, f14, f15, f16, AFa.out, MFa.out⟩⟩
                  | exact ⟨a', K, n6, c6, nE, cE, nD, cD, nF, cF, n5, c5, b2, p2, k1, pK, A6, AE, AD, AF, A5, R6, RE, RD, FP, P5, rfl, ⟨f1, f2, f3, f4, f5, f6, f7, f8, f9, f10, f11, f12, f13, f14, f15, f16, AFb.out, MFb.out⟩⟩
        · as_aux_lemma =>
            obtain ⟨⟨c0, c1⟩, _, cl⟩ := M.out.box2 6 rfl
            have HDU := Lib.hid (ldup_q (M.out.row 7 rfl) D.out.nF24 D.out.qf n9 (by omega) _ (Held.refl _))
            go_wp2_with fail
            refine HDU.out.mono ?_
            rintro e w5 ⟨A5, n5, c5, o5, P5, rfl, hq5, hn5, oP5, h5⟩
            have M5 := Lib.hid (M.out.own h5 oP5)
            have M5A := Lib.hid (HALL.out.held h5)
            have M6 := Lib.hid ((M5.out.put2 6 rfl (.slice A5 n5 c5) (.bool false)).sel [0, 1, 2, 3, 4, 5, 6, 10, 8, 9] (by decide))
            have M6A := Lib.hid (M5A.out.put2 (Blk.of M5.out 6 rfl (by decide) (Nat.zero_le _)) (.slice A5 n5 c5) (.bool false))
            have HQ5 := Lib.hid hq5
            have HN5 : Hid (n5 ≤ 24) := hn5
            clear hq5 oP5 h5 HDU c0 c1 cl hn5
            obtain ⟨⟨l0, l1⟩, ⟨lf0, lf1⟩, ll⟩ := M5.out.box2 6 rfl
            obtain ⟨⟨b0, b1'⟩, _, bl⟩ := M6.out.box2 8 rfl
            have HLO := Lib.hid (llose_q (M6.out.row 9 rfl) D.out.nB24 D.out.qb n9 (by omega) _ (Held.refl _))
            clear M5 M5A M HALL
            go_wp2_with fail
            refine HLO.out.mono ?_
            rintro e w7 ⟨A7, n7, c7, o7, P7, rfl, hq7, hn7, oP7, h7⟩
            have M7 := Lib.hid (M6.out.own h7 oP7)
            have M7A := Lib.hid (M6A.out.held h7)
            have HQ7 := Lib.hid hq7
            have HN7 : Hid (n7 ≤ 24) := hn7
            clear hq7 oP7 h7 HLO hn7 l0 l1 lf0 lf1 ll b0 b1' bl
            obtain ⟨⟨b0, b1'⟩, ⟨bf0, bf1⟩, bl⟩ := M7.out.box2 8 rfl
            have MF := Lib.hid ((M7.out.put2 8 rfl (.slice A7 n7 c7) (.bool false)).sel [0, 1, 2, 3, 4, 5, 6, 7, 8, 10] (by decide))
            have AF8 := Lib.hid (M7A.out.put2 (Blk.of M7.out 8 rfl (by decide) (Nat.zero_le _)) (.slice A7 n7 c7) (.bool false))
            clear M6 M6A M7 M7A
            go_wp2
            go_meet
            case rel => exact ⟨a, K, nS, cQ2, nE, cE, nD, cD, n5, c5, n7, c7, b1, pa, k1, pK, AS, AE, AD, A5, A7, RS, RE, RD, P5, P7, rfl, ⟨D.out.aK, D.out.KN, D.out.b1e, D.out.pae, D.out.k1e, D.out.pKe, D.out.nQ8, D.out.nE8, D.out.nDK, HN5.out, HN7.out, D.out.snd, D.out.ei, D.out.got, HQ5.out, HQ7.out, AF8.out, MF.out⟩⟩
        · obtain ⟨⟨c0, c1⟩, _, cl⟩ := M.out.box2 6 rfl
          have hc := HCZ.out
          have hcb : b < wr.heap.size := Nat.lt_of_lt_of_le HBL.out M.out.held.le
          have HZ := Lib.hid ((Held.refl wr).alloc (.cells #[.slice none 0 0, .bool false] 59))
          have MZ := Lib.hid (M.out.alloc #[.slice none 0 0, .bool false] 59)
          obtain ⟨hsl, hA, hcap, hcm, hPl⟩ := own_args (M.out.row 7 rfl)
          by_cases hlt9 : n9 < nF
          · have hp : FP[n9]? = some (FP[n9]'(by omega)) := List.getElem?_eq_getElem (by omega)
            generalize FP[n9]'(by omega) = p at hp
            have hqp := D.out.qf p (List.mem_of_getElem? hp)
            have hps := hqp.size (by rw [HGL.out]; omega) HCH.out.inn
            have HCO := Lib.hid fun w' (k : Held wr w') => corrupt_yes AF nF cF n9 z FP p w' (hsl.held k) hA D.out.nF24 hcap hcm hlt9 hp hps.1 (by omega)
            have hcut := cutAt_set (P := FP) (i := n9) (y := flipped p z)
            have hset : (FP.set n9 (flipped p z))[n9]? = some (flipped p z) := by rw [List.getElem?_set_self (by omega)]
            have hsz := flip_size p z
            have hor : QF (gs R) (flipped p z) ∨ ∃ p' bit, QF (gs R) p' ∧ flipped p z = flipped p' bit := .inr ⟨p, z, hqp, rfl⟩
            have hbad : ∀ R, take R (flipped p z).data.toList = (R, [], false) := fun R' => flip_bad hqp (by rw [HGL.out]; omega) HCH.out.inn z R'
            generalize flipped p z = s5 at HCO hcut hset hsz hor hbad
            have HSZ : Hid ((s5.size : Int) ≤ 1000000000000) := by unfold Hid; omega
            have HQS := Lib.hid hor
            have HSET := Lib.hid hset
            have HNF : Hid (nF ≤ 24) := D.out.nF24
            have HPL : Is (FP.set n9 s5).length nF := ⟨by rw [List.length_set]; exact hPl⟩
            obtain ⟨P5, hP5⟩ : ∃ P5, cutAt (FP.set n9 s5) n9 = P5 := ⟨_, rfl⟩
            have HQ5 : Hid (∀ x ∈ P5, QF (gs R) x) := fun x hx => D.out.qf x (mem_cutAt (by rw [← hcut, hP5]; exact hx))
            have HP5L : Hid (P5.length ≤ 24) := by have h1 := cutAt_len (P := FP.set n9 s5) (i := n9); rw [hP5, HPL.out] at h1; have := HNF.out; unfold Hid; omega
            have HP5 : Is (cutAt (FP.set n9 s5) n9) P5 := ⟨hP5⟩
            have HL9 : Hid (n9 < nF) := hlt9
            clear hp hqp hps hcut hset hsz hor hbad hP5 hsl hA hcap hcm hPl hlt9
            go_upto_region 14 with fail
            go_cut [28, 29] (fun x28 x29 wx => x29 = .bool true ∧ ∃ xb A4 n4 c4, x28 = .pointer (some ⟨xb, 0, none⟩) ∧ Mem W wx [.row 32 3 segC W.heap.size (.slice A nQ cap) R, .row 32 3 segC W.heap.size (.slice AS nS cQ2) RS, .box sb #[.int .u64 (b1 : Int), .int .u64 (pn : Int), .int .u64 (pa : Int), .slice AS nS cQ2] 38, .box rb #[.int .u64 (k1 : Int), .int .u64 (pK : Int), .slice AE nE cE] 41, .row 87 4 erC W.heap.size (.slice AE nE cE) RE, .row 32 3 segC W.heap.size (.slice AD nD cD) RD, .box fb #[.slice AF nF cF, .bool false] 59, .row 9 1 stC W.heap.size (.slice AF nF cF) FP, .box bb #[.slice AB nB cB, .bool false] 59, .row 9 1 stC W.heap.size (.slice AB nB cB) BP, .row 9 1 stC W.heap.size (.slice A4 n4 c4) (FP.set n9 s5), .box xb #[.slice A4 n4 c4, .bool false] 59] ∧ All wx R RS RD [] RE)
            case first =>
              as_aux_lemma =>
                go_region_law (first
                  | (go_simp; go_at_call 26; refine (HCO.out _ (Held.refl wr).drew).mono ?_; rintro e w4 ⟨A4, n4, c4, rfl, o4, h4⟩; have MB := Lib.hid ((M.out.drew).own h4 o4); have HB4 := Lib.hid ((Held.refl wr).drew.step h4); clear o4 h4)
                  | (go_simp; go_at_call 26; refine (HCO.out _ HZ.out.drew).mono ?_; rintro e w4 ⟨A4, n4, c4, rfl, o4, h4⟩; have MA := Lib.hid ((MZ.out.drew).own h4 o4); have HA4 := Lib.hid (HZ.out.drew.step h4); obtain ⟨⟨v0, v1⟩, ⟨vf0, vf1⟩, vl⟩ := MA.out.box2 10 rfl; clear o4 h4))
                all_goals
                  first
                  | (have M5 : Hid (Mem W _ [.row 32 3 segC W.heap.size (.slice A nQ cap) R, .row 32 3 segC W.heap.size (.slice AS nS cQ2) RS, .box sb #[.int .u64 (b1 : Int), .int .u64 (pn : Int), .int .u64 (pa : Int), .slice AS nS cQ2] 38, .box rb #[.int .u64 (k1 : Int), .int .u64 (pK : Int), .slice AE nE cE] 41, .row 87 4 erC W.heap.size (.slice AE nE cE) RE, .row 32 3 segC W.heap.size (.slice AD nD cD) RD, .box fb #[.slice AF nF cF, .bool false] 59, .row 9 1 stC W.heap.size (.slice AF nF cF) FP, .box bb #[.slice AB nB cB, .bool false] 59, .row 9 1 stC W.heap.size (.slice AB nB cB) BP, .row 9 1 stC W.heap.size (.slice A4 n4 c4) (FP.set n9 s5), .box _ #[.slice A4 n4 c4, .bool false] 59]) := Lib.hid ((MA.out.put2 10 rfl (.slice A4 n4 c4) (.bool false)).sel [0, 1, 2, 3, 4, 5, 6, 7, 8, 9, 11, 10] (by decide)); have M5A := Lib.hid ((HALL.out.held HA4.out).put2 (Blk.of MA.out 10 rfl (by decide) (Nat.zero_le _)) (.slice A4 n4 c4) (.bool false)); clear MA HA4 v0 v1 vf0 vf1 vl)
                  | (have M5 : Hid (Mem W _ [.row 32 3 segC W.heap.size (.slice A nQ cap) R, .row 32 3 segC W.heap.size (.slice AS nS cQ2) RS, .box sb #[.int .u64 (b1 : Int), .int .u64 (pn : Int), .int .u64 (pa : Int), .slice AS nS cQ2] 38, .box rb #[.int .u64 (k1 : Int), .int .u64 (pK : Int), .slice AE nE cE] 41, .row 87 4 erC W.heap.size (.slice AE nE cE) RE, .row 32 3 segC W.heap.size (.slice AD nD cD) RD, .box fb #[.slice AF nF cF, .bool false] 59, .row 9 1 stC W.heap.size (.slice AF nF cF) FP, .box bb #[.slice AB nB cB, .bool false] 59, .row 9 1 stC W.heap.size (.slice AB nB cB) BP, .row 9 1 stC W.heap.size (.slice A4 n4 c4) (FP.set n9 s5), .box _ #[.slice A4 n4 c4, .bool false] 59]) := Lib.hid (MB.out.alloc #[.slice A4 n4 c4, .bool false] 59); have M5A := Lib.hid ((HALL.out.held HB4.out).held ((Held.refl w4).alloc (.cells #[.slice A4 n4 c4, .bool false] 59))); clear MB HB4)
                  go_wp2
                  go_meet
                  case rel => exact ⟨rfl, _, A4, n4, c4, rfl, M5.out, M5A.out⟩
            case rest =>
              as_aux_lemma =>
                obtain ⟨rfl, xb, A4, n4, c4, rfl, hM5, hA5⟩ := hcut
                have M5 := Lib.hid hM5
                have M5A := Lib.hid hA5
                clear hM5 hA5 c0 c1 cl hc hcb HZ MZ HCO
                have hn4 : nF = n4 := by rw [← HPL.out]; exact (Own.reads stC_len (M5.out.row 10 rfl)).2.1.symm
                subst hn4
                obtain ⟨⟨x0, x1⟩, _, xl⟩ := M5.out.box2 11 rfl
                obtain ⟨hsl, hA, hcap, hcm, hPl⟩ := own_args (M5.out.row 10 rfl)
                have hde := deliver_yes A4 nF c4 n9 _ s5 _ hsl hA HNF.out hcap hcm HL9.out HSET.out
                rw [HP5.out] at hde
                have HDE := Lib.hid hde
                clear hsl hA hcap hcm hPl hde
                go_wp2_with fail
                refine HDE.out.mono ?_
                rintro e w7 ⟨A5, n5, c5, rfl, oP5, h7⟩
                have M9 : Hid (Mem W _ [.row 32 3 segC W.heap.size (.slice A nQ cap) R, .row 32 3 segC W.heap.size (.slice AS nS cQ2) RS, .box sb #[.int .u64 (b1 : Int), .int .u64 (pn : Int), .int .u64 (pa : Int), .slice AS nS cQ2] 38, .box rb #[.int .u64 (k1 : Int), .int .u64 (pK : Int), .slice AE nE cE] 41, .row 87 4 erC W.heap.size (.slice AE nE cE) RE, .row 32 3 segC W.heap.size (.slice AD nD cD) RD, .box fb #[.slice AF nF cF, .bool false] 59, .row 9 1 stC W.heap.size (.slice AF nF cF) FP, .box bb #[.slice AB nB cB, .bool false] 59, .row 9 1 stC W.heap.size (.slice AB nB cB) BP, .row 9 1 stC W.heap.size (.slice A5 n5 c5) P5, .box _ #[.slice A5 n5 c5, .bool false] 59]) := Lib.hid (((M5.out.take 10).own h7 oP5).alloc #[.slice A5 n5 c5, .bool false] 59)
                have M9A := Lib.hid ((M5A.out.held h7).held ((Held.refl w7).alloc (.cells #[.slice A5 n5 c5, .bool false] 59)))
                have HN5 : Hid (n5 ≤ 24) := by have := (own_args oP5).2.2.2.2; have := HP5L.out; unfold Hid; omega
                clear M5 M5A oP5 h7 HDE x0 x1 xl
                obtain ⟨K', E', ok', hK1, hK2, hEI', htk⟩ := take_step HCH.out D.out.ei (by omega) HGL.out.symm D.out.KN (s := s5) HQS.out
                obtain ⟨k2, hk2⟩ : ∃ k2, K' + 1 = k2 := ⟨_, rfl⟩
                obtain ⟨p2, hp2⟩ : ∃ p2, pos at_ (gs R) K' = p2 := ⟨_, rfl⟩
                have hr0 : rcvAt at_ (gs R) K (ers RE) = ⟨k1, pK, ers RE⟩ := by unfold rcvAt; rw [D.out.k1e, D.out.pKe]
                have hr1 : rcvAt at_ (gs R) K' E' = ⟨k2, p2, E'⟩ := by unfold rcvAt; rw [hk2, hp2]
                rw [hr0, hr1] at htk
                have ht := take_any k1 pK AE nE cE RE s5 0 _ (Nat.zero_le _) (Own.reads erC_len (M9.out.row 4 rfl)).1 M9A.out.e D.out.nE8 HSZ.out
                rw [htk] at ht
                have HT := Lib.hid ht
                have HEI2 := Lib.hid hEI'
                have HK2 : Is k2 (K' + 1) := ⟨hk2.symm⟩
                have HP2 : Is p2 (pos at_ (gs R) K') := ⟨hp2.symm⟩
                have HKK : Hid (K ≤ K' ∧ K' ≤ nQ) := ⟨hK1, hK2⟩
                clear hEI' htk hr0 hr1 ht hk2 hp2 hK1 hK2
                obtain ⟨⟨r0, r1, r2⟩, _, rl⟩ := M9.out.box3 3 rfl
                go_wp2_with fail
                refine HT.out.mono ?_
                rintro e w6 ⟨A4, n4, c4, DA, dn, dc, R4, D4, rfl, hR4, hD4, hM6, hE6, hD6⟩
                dsimp only at hR4 hD4 ⊢
                have HR4 := Lib.hid hR4
                have HD4 := Lib.hid hD4
                have MX := Lib.hid ((M9.out.two hM6).alloc #[.int .u64 (k2 : Int), .int .u64 (p2 : Int), .slice A4 n4 c4] 41)
                have AX := Lib.hid ((M9A.out.rcv hM6.held hE6 hD6).held ((Held.refl w6).alloc (.cells #[.int .u64 (k2 : Int), .int .u64 (p2 : Int), .slice A4 n4 c4] 41)))
                clear hR4 hD4 hM6 hE6 hD6 HT r0 r1 r2 rl
                have HF : Hid (a ≤ K' ∧ K' ≤ nQ ∧ b1 = a + 1 ∧ pa = pos at_ (gs R) a ∧ k2 = K' + 1 ∧ p2 = pos at_ (gs R) K' ∧ nS ≤ 8 ∧ n4 ≤ 1000000 ∧ nD + dn = K' ∧ n5 ≤ 24 ∧ nB ≤ 24 ∧ sndAt at_ (gs R) a nQ = ⟨b1, pn, pa, gs RS⟩ ∧ EI at_ (gs R) K' nQ (ers R4) ∧ gs (RD ++ D4) = (gs R).take K' ∧ (∀ x ∈ P5, QF (gs R) x) ∧ ∀ x ∈ BP, QB at_ (gs R) K' x) := by
                  have hgs := got_step HKK.out.1 D.out.got HD4.out
                  have hei : EI at_ (gs R) K' nQ (ers R4) := by rw [HR4.out]; exact HEI2.out
                  have h4 := ei_len hei (by omega)
                  have h5 := (Own.reads erC_len (MX.out.row 12 rfl)).2.1
                  rw [ers_len] at h4
                  have h6 := congrArg List.length hgs
                  have h7 := (Own.reads segC_len (MX.out.row 5 rfl)).2.1
                  have h8 := (Own.reads segC_len (MX.out.row 13 rfl)).2.1
                  rw [gs_len, List.length_append, List.length_take, HGL.out] at h6
                  have h9 := HKK.out
                  exact ⟨Nat.le_trans D.out.aK h9.1, h9.2, D.out.b1e, D.out.pae, HK2.out, HP2.out, D.out.nQ8, by omega, by omega, HN5.out, D.out.nB24, D.out.snd, hei, hgs, HQ5.out, fun x hx => (D.out.qb x hx).mono h9.1⟩
                have SLX := Lib.hid (Own.reads segC_len (MX.out.row 13 rfl)).1
                have hdn : dn ≤ 8 := by
                  have h1 := (Own.reads segC_len (MX.out.row 13 rfl)).2.1
                  have h2 := congrArg List.length HD4.out
                  rw [gs_len, List.length_take] at h2
                  have h3 := HKK.out
                  omega
                have HBD : Hid ((nD + dn) * 40 ≤ 140737488355328) := by have := D.out.nDK; unfold Hid; omega
                obtain ⟨⟨e0, e1, e2⟩, _, el⟩ := MX.out.box3 14 rfl
                obtain ⟨⟨y0, y1⟩, _, yl⟩ := MX.out.box2 11 rfl
                obtain ⟨⟨r0, r1, r2⟩, ⟨rf0, rf1, rf2⟩, rl⟩ := MX.out.box3 3 rfl
                obtain ⟨⟨l0, l1⟩, ⟨lf0, lf1⟩, ll⟩ := MX.out.box2 6 rfl
                have ne1 := MX.out.ne 3 14 rfl rfl (by decide)
                have ne2 := MX.out.ne 14 3 rfl rfl (by decide)
                have ne3 := MX.out.ne 3 11 rfl rfl (by decide)
                have ne4 := MX.out.ne 11 3 rfl rfl (by decide)
                have ne5 := MX.out.ne 6 14 rfl rfl (by decide)
                have ne6 := MX.out.ne 14 6 rfl rfl (by decide)
                have ne7 := MX.out.ne 6 11 rfl rfl (by decide)
                have ne8 := MX.out.ne 11 6 rfl rfl (by decide)
                have ne9 := MX.out.ne 3 6 rfl rfl (by decide)
                have ne0 := MX.out.ne 6 3 rfl rfl (by decide)
                have HDL : Is RD.length nD := ⟨((Own.reads segC_len (MX.out.row 5 rfl)).2.1).symm⟩
                clear M D HALL
                go_upto_region 18 with fail
                go_region_law (first
                  | (refine Mem.step_catC MX.out.drew 5 rfl (by rfl) _ _ _ (by rfl) _ 40 Try.underlying25 info_seg (by rfl) (by decide) segC_len segC_one D4 DA dn dc (by rfl) (by rfl) (SLX.out.held (Held.refl _).drew) HDL.out HBD.out (by decide) ?_; intro A8 c8 w8 M8' k8; have M8X := Lib.hid M8'; have A8X := Lib.hid ((AX.out.held (Held.refl _).drew).chg (k8 106 0 (by decide) (Nat.zero_le _))); obtain ⟨⟨e0, e1, e2⟩, _, el⟩ := M8'.box3 14 rfl; obtain ⟨⟨y0, y1⟩, _, yl⟩ := M8'.box2 11 rfl; obtain ⟨⟨r0, r1, r2⟩, ⟨rf0, rf1, rf2⟩, rl⟩ := M8'.box3 3 rfl; obtain ⟨⟨l0, l1⟩, ⟨lf0, lf1⟩, ll⟩ := M8'.box2 6 rfl; clear M8' k8))
                all_goals
                  have MF2 := M8X.out.put2 6 rfl (.slice A5 n5 c5) (.bool false)
                  have MF := Lib.hid ((MF2.put3 3 rfl (.int .u64 (k2 : Int)) (.int .u64 (p2 : Int)) (.slice A4 n4 c4)).sel [0, 1, 2, 3, 12, 5, 6, 10, 8, 9] (by decide))
                  have AF8 := Lib.hid ((A8X.out.put2 (Blk.of M8X.out 6 rfl (by decide) (Nat.zero_le _)) (.slice A5 n5 c5) (.bool false)).put3 (Blk.of MF2 3 rfl (by decide) (Nat.zero_le _)) (.int .u64 (k2 : Int)) (.int .u64 (p2 : Int)) (.slice A4 n4 c4))
                  clear MF2 M8X A8X MX AX
                  go_wp2
                  go_meet
                  case rel => exact ⟨a, K', nS, cQ2, n4, c4, nD + dn, c8, n5, c5, nB, cB, b1, pa, k2, p2, AS, A4, A8, A5, AB, RS, R4, RD ++ D4, P5, BP, rfl, ⟨HF.out.1, HF.out.2.1, HF.out.2.2.1, HF.out.2.2.2.1, HF.out.2.2.2.2.1, HF.out.2.2.2.2.2.1, HF.out.2.2.2.2.2.2.1, HF.out.2.2.2.2.2.2.2.1 , HF.out.2.2.2.2.2.2.2.2.1 , HF.out.2.2.2.2.2.2.2.2.2.1, HF.out.2.2.2.2.2.2.2.2.2.2.1, HF.out.2.2.2.2.2.2.2.2.2.2.2.1, HF.out.2.2.2.2.2.2.2.2.2.2.2.2.1, HF.out.2.2.2.2.2.2.2.2.2.2.2.2.2.1, HF.out.2.2.2.2.2.2.2.2.2.2.2.2.2.2.1, HF.out.2.2.2.2.2.2.2.2.2.2.2.2.2.2.2, AF8.out.cat, MF.out⟩⟩
          · as_aux_lemma =>
              have hni : ¬ n9 < nF := hlt9
              have HCO := Lib.hid fun w' (k : Held wr w') => corrupt_no AF nF cF n9 z FP w' (hsl.held k) hA D.out.nF24 (by omega) hni
              clear hsl hA hcap hcm hPl hlt9 hni
              go_upto_region 14 with fail
              go_region_law (first
                | (go_simp; go_at_call 26; refine (HCO.out _ (Held.refl wr).drew).mono ?_; rintro e w4 ⟨A4, n4, c4, rfl, o4, h4⟩; have MB := Lib.hid ((M.out.drew).own h4 o4); have HB4 := Lib.hid ((Held.refl wr).drew.step h4); clear o4 h4)
                | (go_simp; go_at_call 26; refine (HCO.out _ HZ.out.drew).mono ?_; rintro e w4 ⟨A4, n4, c4, rfl, o4, h4⟩; have MA := Lib.hid ((MZ.out.drew).own h4 o4); have HA4 := Lib.hid (HZ.out.drew.step h4); obtain ⟨⟨v0, v1⟩, ⟨vf0, vf1⟩, vl⟩ := MA.out.box2 10 rfl; clear o4 h4))
              all_goals
                first
                | (have M5 : Hid (Mem W _ [.row 32 3 segC W.heap.size (.slice A nQ cap) R, .row 32 3 segC W.heap.size (.slice AS nS cQ2) RS, .box sb #[.int .u64 (b1 : Int), .int .u64 (pn : Int), .int .u64 (pa : Int), .slice AS nS cQ2] 38, .box rb #[.int .u64 (k1 : Int), .int .u64 (pK : Int), .slice AE nE cE] 41, .row 87 4 erC W.heap.size (.slice AE nE cE) RE, .row 32 3 segC W.heap.size (.slice AD nD cD) RD, .box fb #[.slice AF nF cF, .bool false] 59, .row 9 1 stC W.heap.size (.slice AF nF cF) FP, .box bb #[.slice AB nB cB, .bool false] 59, .row 9 1 stC W.heap.size (.slice AB nB cB) BP, .row 9 1 stC W.heap.size (.slice A4 n4 c4) FP, .box _ #[.slice A4 n4 c4, .bool false] 59]) := Lib.hid ((MA.out.put2 10 rfl (.slice A4 n4 c4) (.bool false)).sel [0, 1, 2, 3, 4, 5, 6, 7, 8, 9, 11, 10] (by decide)); have M5A := Lib.hid ((HALL.out.held HA4.out).put2 (Blk.of MA.out 10 rfl (by decide) (Nat.zero_le _)) (.slice A4 n4 c4) (.bool false)); clear MA HA4 v0 v1 vf0 vf1 vl)
                | (have M5 : Hid (Mem W _ [.row 32 3 segC W.heap.size (.slice A nQ cap) R, .row 32 3 segC W.heap.size (.slice AS nS cQ2) RS, .box sb #[.int .u64 (b1 : Int), .int .u64 (pn : Int), .int .u64 (pa : Int), .slice AS nS cQ2] 38, .box rb #[.int .u64 (k1 : Int), .int .u64 (pK : Int), .slice AE nE cE] 41, .row 87 4 erC W.heap.size (.slice AE nE cE) RE, .row 32 3 segC W.heap.size (.slice AD nD cD) RD, .box fb #[.slice AF nF cF, .bool false] 59, .row 9 1 stC W.heap.size (.slice AF nF cF) FP, .box bb #[.slice AB nB cB, .bool false] 59, .row 9 1 stC W.heap.size (.slice AB nB cB) BP, .row 9 1 stC W.heap.size (.slice A4 n4 c4) FP, .box _ #[.slice A4 n4 c4, .bool false] 59]) := Lib.hid (MB.out.alloc #[.slice A4 n4 c4, .bool false] 59); have M5A := Lib.hid ((HALL.out.held HB4.out).held ((Held.refl w4).alloc (.cells #[.slice A4 n4 c4, .bool false] 59))); clear MB HB4)
                have MF := Lib.hid (M5.out.take 10)
                obtain ⟨⟨x0, x1⟩, _, xl⟩ := M5.out.box2 11 rfl
                clear c0 c1 cl hc hcb HZ MZ M HALL HCO
                go_wp2
                go_meet
                case rel => exact ⟨a, K, nS, cQ2, nE, cE, nD, cD, nF, cF, nB, cB, b1, pa, k1, pK, AS, AE, AD, AF, AB, RS, RE, RD, FP, BP, rfl, ⟨D.out.aK, D.out.KN, D.out.b1e, D.out.pae, D.out.k1e, D.out.pKe, D.out.nQ8, D.out.nE8, D.out.nDK, D.out.nF24, D.out.nB24, D.out.snd, D.out.ei, D.out.got, D.out.qf, D.out.qb, M5A.out, MF.out⟩⟩
      case rest =>
        as_aux_lemma =>
          obtain ⟨a, K, nS, cQ2, nE, cE, nD, cD, nF, cF, nB, cB, b1, pa, k1, pK, AS, AE, AD, AF, AB, RS, RE, RD, FP, BP, rfl, hD⟩ := hcut
          have hDI : Hid (DInv W at_ nQ cap pn sb rb fb bb A R (.slice AD nD cD) wc) := ⟨a, K, nS, cQ2, nE, cE, nD, cD, nF, cF, nB, cB, b1, pa, k1, pK, AS, AE, AD, AF, AB, RS, RE, RD, FP, BP, rfl, hD⟩
          have D := Lib.hid hD
          have M := Lib.hid hD.mem
          obtain rfl : nD = K := hD.nDK
          have hK1 := hD.k1e
          have hKN := hD.KN
          have hpp : pa ≤ pK := by rw [hD.pae, hD.pKe]; exact HCH.out.mono hD.aK (by rw [HGL.out]; exact hD.KN)
          clear hD
          obtain ⟨⟨s0, s1, s2, s3⟩, _, sl⟩ := M.out.box4 2 rfl
          obtain ⟨⟨r0, r1, r2⟩, _, rl⟩ := M.out.box3 3 rfl
          have rA := (Own.reads segC_len (M.out.row 5 rfl)).1
          have rB := (Own.reads segC_len (M.out.row 0 rfl)).1
          have HSS := Lib.hid (sameS_any AD A nD cD cap RD (R.take nD) 0 wc rA (rB.take hKN) D.out.all.d (D.out.all.r.take nD) (by rw [D.out.got]; unfold gs; rw [List.map_take]) (by omega))
          have q1 : ¬ (nQ : Int) < nD := by omega
          have q2 : ¬ (pK : Int) < pa := by omega
          have q3 : (k1 : Int) = nD + 1 := by omega
          have q4 : (nD : Int) ≤ cap := by have := (rB.1); have h2 := Own.cap (M.out.row 0 rfl); omega
          have q5 : (nD : Int) ≤ 8 := by omega
          subst hK1
          clear rA rB M hKN hpp sl rl
          go_wp2_with fail
          refine HSS.out.mono ?_
          rintro e w9 ⟨rfl, h9⟩
          have HD9 : Hid (DInv W at_ nQ cap pn sb rb fb bb A R (.slice AD nD cD) w9) := by
            obtain ⟨a', K', nS', cQ2', nE', cE', nD', cD', nF', cF', nB', cB', b1', pa', k1', pK', AS', AE', AD', AF', AB', RS', RE', RD', FP', BP', hv, d⟩ := hDI.out
            exact ⟨a', K', nS', cQ2', nE', cE', nD', cD', nF', cF', nB', cB', b1', pa', k1', pK', AS', AE', AD', AF', AB', RS', RE', RD', FP', BP', hv, ⟨d.aK, d.KN, d.b1e, d.pae, d.k1e, d.pKe, d.nQ8, d.nE8, d.nDK, d.nF24, d.nB24, d.snd, d.ei, d.got, d.qf, d.qb, d.all.held h9, d.mem.keep h9⟩⟩
          have M9 := Lib.hid (D.out.mem.keep h9)
          obtain ⟨⟨s0, s1, s2, s3⟩, _, sl⟩ := M9.out.box4 2 rfl
          obtain ⟨⟨r0, r1, r2⟩, _, rl⟩ := M9.out.box3 3 rfl
          clear h9 HSS D
          go_wp2
          go_roundw
          case rel => exact ⟨q + 1, by go_num, by omega, HD9.out⟩
          case measure => (simp [RowKit.intOf]) <;> omega
    · obtain rfl : q = len2 := by omega
      have z2 : ¬ (q : Int) < q := by omega
      clear D HALL
      go_wp2_with (go_at_call 8; refine (HAW.out _).mono ?_; rintro e w15 ⟨rfl, h15⟩)
      go_ret
      exact ⟨rfl, M.out.held.step h15⟩
end St
end Go.Proofs.Ythpjbffhdaaibaa
