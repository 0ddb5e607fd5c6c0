/-
  Chapter 24: StreamWindow: the walk.
-/
import Derived.Test.YthpjbffhdaaibaaZxStT
import Derived.Deep.DeepCutAuto
set_option linter.unusedVariables false
set_option linter.unusedSimpArgs false
set_option maxRecDepth 100000
namespace Go.Proofs.Ythpjbffhdaaibaa
open Go.RowKit Go.BigFrame Go.Sort Go.Lib
namespace St
open Enc Uv Lg Lgc Strs
theorem dataP_len2b {n : Nat} {g : Seg} (hn : n < 18446744073709551616) (hg : SegIn g) : (dataP n g).length ≤ 100000 := by
  have h := body_len g hg
  have h1 := put_len n hn
  have h2 := put_len ((body g).1.length + 1) (by omega)
  unfold dataP packed
  simp only [List.length_append, be8_len, List.length_cons]
  omega
theorem packs_nth2b {at_ : Nat} {G : List Seg} (h : Ch at_ G) {n : Nat} (hn : n ≤ G.length) (h8 : n ≤ 8) {j : Nat} (hj : j < n) : (strs (packets (sndAt at_ G 0 n)))[j]? = some ⟨(dataP (j + 1) (G[j]'(by omega))).toArray⟩ := by
  rw [packets_at h (Nat.zero_le _) hn (by omega) (by omega)]
  unfold strs
  rw [List.getElem?_map, List.getElem?_map, List.getElem?_range (by omega)]
  simp only [Option.map_some, Nat.zero_add]
  rw [List.getD_eq_getElem?_getD, List.getElem?_eq_getElem (by omega)]; rfl
theorem packs_cnt2b {at_ : Nat} {G : List Seg} (h : Ch at_ G) {n : Nat} (hn : n ≤ G.length) (h8 : n ≤ 8) : (strs (packets (sndAt at_ G 0 n))).length = n := by
  rw [packets_at h (Nat.zero_le _) hn (by omega) (by omega)]
  unfold strs
  rw [List.length_map, List.length_map, List.length_range]; rfl
set_option maxHeartbeats 12000000 in
theorem window (o0 : Option Addr) (len0 cap0 : Nat) (z0 : List Int) (a1 a2 : Int) (w1 : (Lit.int .u64 a1).wf = true) (w2 : (Lit.int .i64 a2).wf = true) (W : World) (w0 : Rw.IsRow .i64 W o0 len0 cap0 z0) :
    Calls Try.prog 5 #[.slice o0 len0 cap0, .int .u64 a1, .int .i64 a2] W fun e w' => e = .returned (.bool true) ∧ Below W.heap.size W w' := by
  have hat := Rw.bd_u64 w1
  have ha2 := Rw.bd_i64 w2
  obtain ⟨at_, rfl⟩ := Int.eq_ofNat_of_zero_le hat.1
  obtain ⟨L, hL, hmx, hLb⟩ := nums_in w0
  have HAW := Lib.hid awake_any
  by_cases t0 : ¬ (len0 : Int) = 12
  · clear hL hLb w0 w1 w2
    go_enter Try.func5, Try.ntmps5
    go_wp2_with (go_at_call 8; refine (HAW.out _).mono ?_; rintro e w1 ⟨rfl, h1⟩)
    go_ret
    exact ⟨rfl, h1⟩
  have t0e : len0 = 12 := by omega
  subst t0e
  by_cases t2 : (1099511627776 : Int) < at_
  · clear hL hLb w0 w1 w2
    go_enter Try.func5, Try.ntmps5
    go_wp2_with (go_at_call 8; refine (HAW.out _).mono ?_; rintro e w1 ⟨rfl, h1⟩)
    go_ret
    exact ⟨rfl, h1⟩
  have t2d : decide ((1099511627776 : Int) < at_) = false := decide_eq_false t2
  by_cases t3 : a2 < 0
  · clear hL hLb w0 w1 w2
    go_enter Try.func5, Try.ntmps5
    go_wp2_with (go_at_call 8; refine (HAW.out _).mono ?_; rintro e w1 ⟨rfl, h1⟩)
    go_ret
    exact ⟨rfl, h1⟩
  have t3d : decide (a2 < 0) = false := decide_eq_false t3
  by_cases t4 : 4 < a2
  · clear hL hLb w0 w1 w2
    go_enter Try.func5, Try.ntmps5
    go_wp2_with (go_at_call 8; refine (HAW.out _).mono ?_; rintro e w1 ⟨rfl, h1⟩)
    go_ret
    exact ⟨rfl, h1⟩
  have t4d : decide (4 < a2) = false := decide_eq_false t4
  obtain ⟨c, rfl⟩ := Int.eq_ofNat_of_zero_le (show 0 ≤ a2 by omega)
  have hc4 : c ≤ 4 := by omega
  have HSG := Lib.hid (segments_any o0 12 cap0 L at_ 0 W (Nat.zero_le _) hL hLb (by omega) (by omega))
  clear hL hLb w0 w1 w2
  go_enter Try.func5, Try.ntmps5
  go_wp2_with fail
  refine HSG.out.mono ?_
  rintro e w1 ⟨A, cap, R, rfl, hRl, hch, oR, sR, h1⟩
  have M1 := Lib.hid ((Mem.start W).own h1 oR)
  have HRL : Is R.length 12 := ⟨hRl⟩
  have hgl : (gs R).length = 12 := by rw [gs_len]; exact hRl
  have HGL : Is (gs R).length 12 := ⟨hgl⟩
  have hs2 := started_any A 12 cap R at_ 0 w1 (Nat.zero_le _) (Own.reads segC_len oR).1 sR hch (by omega) (by omega)
  unfold StTo at hs2
  rw [hgl, show min 12 8 = 8 by omega] at hs2
  have HST := Lib.hid hs2
  have HCH := Lib.hid hch
  have S1 := Lib.hid sR
  clear hRl hch oR sR h1 HSG hs2 hgl
  go_wp2_with fail
  refine HST.out.mono ?_
  rintro e w2 ⟨AQ, nQ, cQ, rfl, ⟨RQ, hRQ, oQ, sQ⟩, h2⟩
  have hQl : RQ.length = 8 := by have := congrArg List.length hRQ; rw [gs_len, List.length_take, HGL.out] at this; omega
  obtain rfl : nQ = 8 := by rw [← hQl]; exact (Own.reads segC_len oQ).2.1
  have HRQ := Lib.hid hRQ
  obtain ⟨pn, hpn⟩ : ∃ pn, pos at_ (gs R) 8 = pn := ⟨_, rfl⟩
  rw [hpn]
  have M2 := Lib.hid (((M1.out.own h2 oQ).alloc #[.int .u64 1, .int .u64 (pn : Int), .int .u64 at_, .slice AQ 8 cQ] 38).alloc' (b := w2.heap.size + 1) (by simp) #[.int .u64 1, .int .u64 at_, .slice none 0 0] 41)
  have hA2 := ((Held.refl w2).alloc (.cells #[.int .u64 1, .int .u64 (pn : Int), .int .u64 at_, .slice AQ 8 cQ] 38)).alloc (.cells #[.int .u64 1, .int .u64 at_, .slice none 0 0] 41)
  have S2 := Lib.hid ((S1.out.held h2).held hA2)
  have Q2 := Lib.hid (sQ.held hA2)
  have hpk := fun (w' : World) (k : Held _ w') => packets_any 1 pn at_ AQ 8 cQ RQ 0 w' ((Own.reads segC_len (M2.out.row 1 rfl)).1.held k) (Q2.out.held k) (by omega)
  have hsnd : sndAt at_ (gs R) 0 8 = ⟨1, pn, at_, gs RQ⟩ := by rw [sndAt0, hpn, HRQ.out]
  rw [← hsnd] at hpk
  have HPK := Lib.hid hpk
  have HPN := Lib.hid hpn
  have HSND := Lib.hid hsnd
  obtain ⟨⟨c0, c1, c2, c3⟩, _, cl⟩ := M2.out.box4 2 rfl
  clear hQl hRQ oQ sQ h2 hA2 hpk hsnd HST M1 S1 hpn
  obtain ⟨b, off, f, kn, XA, xn, xc, es, rfl, hb, hx, x0, x1, x2⟩ := segAt (Own.reads segC_len (M2.out.row 0 rfl)).1 (Held.refl _) (k := 8) (by decide)
  have hge : (gs R)[8]'(by rw [HGL.out]; decide) = ⟨f, kn, es⟩ := by
    have := gs_at hx
    rw [List.getElem?_eq_getElem (by rw [HGL.out]; decide)] at this
    injection this
  have hpu := push_at HCH.out (a := 0) (p := 8) (Nat.zero_le _) (by rw [HGL.out]; decide) (by omega) (by omega)
  rw [if_neg (by omega), hge, HSND.out] at hpu
  have hpc := fun (w' : World) (k : Held _ w') => push_any 1 pn at_ AQ 8 cQ RQ f kn XA xn xc es 0 w' (Nat.zero_le _) ((Own.reads segC_len (M2.out.row 1 rfl)).1.held k) (Q2.out.held k) (by omega) ((S2.out.at_ hx).held k)
  rw [hpu] at hpc
  have HPC := Lib.hid hpc
  obtain ⟨w3, hw3⟩ : ∃ w3, (w2.alloc (.cells #[.int .u64 1, .int .u64 (pn : Int), .int .u64 at_, .slice AQ 8 cQ] 38)).alloc (.cells #[.int .u64 1, .int .u64 at_, .slice none 0 0] 41) = w3 := ⟨_, rfl⟩
  have HW3 := Lib.hid hw3
  rw [hw3] at M2 S2 Q2 HPC HPK x0 x1 x2 c0 c1 c2 c3 hb cl
  have MZ := Lib.hid (M2.out.alloc #[.int .u64 0, .int .u64 0, .int .u64 0, .slice none 0 0] 38)
  have hZ := Lib.hid ((Held.refl w3).alloc (.cells #[.int .u64 0, .int .u64 0, .int .u64 0, .slice none 0 0] 38)).drew
  clear hw3 hpu hpc hge hx
  go_wp2
  rw [HW3.out]
  go_cut [11, 12] (fun v11 v12 wx => ∃ (xb n4 c4 : Nat) (A4 : Option Addr) (R4 : List SR), v11 = .pointer (some ⟨xb, 0, none⟩) ∧ v12 = .int .i64 2401 ∧ Mem W wx [.row 32 3 segC W.heap.size (.slice (some ⟨b, off, none⟩) 12 cap) R, .row 32 3 segC W.heap.size (.slice AQ 8 cQ) RQ, .box w2.heap.size #[.int .u64 1, .int .u64 (pn : Int), .int .u64 at_, .slice AQ 8 cQ] 38, .box (w2.heap.size + 1) #[.int .u64 1, .int .u64 at_, .slice none 0 0] 41, .box xb #[.int .u64 1, .int .u64 (pn : Int), .int .u64 at_, .slice A4 n4 c4] 38, .row 32 3 segC W.heap.size (.slice A4 n4 c4) R4] ∧ gs R4 = gs RQ ∧ Sgs 0 wx R ∧ Sgs 0 wx RQ ∧ Sgs 0 wx R4)
  case first =>
    go_region_law (first
      | (go_simp; go_at_call 19; refine (HPC.out _ (Held.refl _).drew).mono ?_; rintro e w4 ⟨A4, n4, c4, rfl, ⟨R4, hR4, oR4, sR4⟩, h4⟩; dsimp only at hR4 ⊢; have HR4 := Lib.hid hR4; have MB := Lib.hid ((M2.out.drew).own h4 oR4); have SB := Lib.hid sR4; have SRB := Lib.hid (S2.out.held ((Held.refl _).drew.step h4)); have SQB := Lib.hid (Q2.out.held ((Held.refl _).drew.step h4)); clear hR4 oR4 sR4 h4)
      | (go_simp; go_at_call 19; refine (HPC.out _ hZ.out).mono ?_; rintro e w4 ⟨A4, n4, c4, rfl, ⟨R4, hR4, oR4, sR4⟩, h4⟩; dsimp only at hR4 ⊢; have HR4 := Lib.hid hR4; have MA := Lib.hid ((MZ.out.drew).own h4 oR4); have SA := Lib.hid sR4; have SRA := Lib.hid (S2.out.held (hZ.out.step h4)); have SQA := Lib.hid (Q2.out.held (hZ.out.step h4)); obtain ⟨⟨z0, z1, z2', z3'⟩, ⟨zf0, zf1, zf2, zf3⟩, zl⟩ := MA.out.box4 4 rfl; clear hR4 oR4 sR4 h4))
    all_goals
      first
      | (have MX := Lib.hid (MA.out.put4 4 rfl (.int .u64 1) (.int .u64 (pn : Int)) (.int .u64 at_) (.slice A4 n4 c4)); have bk := Blk.of MA.out 4 rfl (by decide) (Nat.zero_le _); have SX := Lib.hid (SA.out.put4 bk (.int .u64 1) (.int .u64 (pn : Int)) (.int .u64 at_) (.slice A4 n4 c4)); have SRX := Lib.hid (SRA.out.put4 bk (.int .u64 1) (.int .u64 (pn : Int)) (.int .u64 at_) (.slice A4 n4 c4)); have SQX := Lib.hid (SQA.out.put4 bk (.int .u64 1) (.int .u64 (pn : Int)) (.int .u64 at_) (.slice A4 n4 c4)); clear z0 z1 z2' z3' zf0 zf1 zf2 zf3 zl MA SA SRA SQA bk)
      | (have MX := Lib.hid ((MB.out.alloc #[.int .u64 1, .int .u64 (pn : Int), .int .u64 at_, .slice A4 n4 c4] 38).sel [0, 1, 2, 3, 5, 4] (by decide)); have hN := (Held.refl w4).alloc (.cells #[.int .u64 1, .int .u64 (pn : Int), .int .u64 at_, .slice A4 n4 c4] 38); have SX := Lib.hid (SB.out.held hN); have SRX := Lib.hid (SRB.out.held hN); have SQX := Lib.hid (SQB.out.held hN); clear MB SB SRB SQB hN)
      go_wp2
      go_meet
      case rel => exact ⟨_, n4, c4, A4, R4, rfl, rfl, MX.out, HR4.out, SRX.out, SQX.out, SX.out⟩
  case rest =>
    obtain ⟨xb, n4, c4, A4, R4, rfl, rfl, hM, hR4, hSR, hSQ, hS4⟩ := hcut
    have hn4 : n4 = 8 := by
      have h1 := (Own.reads segC_len (hM.row 5 rfl)).2.1
      have h2 := congrArg List.length hR4
      have h3 := (Own.reads segC_len (hM.row 1 rfl)).2.1
      rw [gs_len, gs_len] at h2
      omega
    subst hn4
    have M4 := Lib.hid hM
    have SR := Lib.hid hSR
    have SQ := Lib.hid hSQ
    have HSS := Lib.hid (sameSnd_any 1 pn at_ A4 AQ 8 c4 cQ R4 RQ 0 wc (Own.reads segC_len (hM.row 5 rfl)).1 (Own.reads segC_len (hM.row 1 rfl)).1 hS4 hSQ hR4 (by decide))
    obtain ⟨⟨s0, s1, s2, s3⟩, _, sl⟩ := M4.out.box4 2 rfl
    obtain ⟨⟨y0, y1, y2, y3⟩, _, yl⟩ := M4.out.box4 4 rfl
    clear hM hR4 hSR hSQ hS4 MZ hZ HPC c0 c1 c2 c3 cl x0 x1 x2 hb M2 S2 Q2 HW3
    go_wp2_with fail
    refine HSS.out.mono ?_
    rintro e w5 ⟨rfl, h5⟩
    have M5 := Lib.hid ((M4.out.keep h5).take 4)
    have SR5 := Lib.hid (SR.out.held h5)
    have SQ5 := Lib.hid (SQ.out.held h5)
    clear h5 HSS M4 SR SQ s0 s1 s2 s3 sl y0 y1 y2 y3 yl
    obtain ⟨⟨s0, s1, s2, s3⟩, _, sl⟩ := M5.out.box4 2 rfl
    have hpk := packets_any 1 pn at_ AQ 8 cQ RQ 0 w5 (Own.reads segC_len (M5.out.row 1 rfl)).1 SQ5.out (by decide)
    rw [← HSND.out] at hpk
    obtain ⟨PS, hPS⟩ : ∃ PS, strs (packets (sndAt at_ (gs R) 0 8)) = PS := ⟨_, rfl⟩
    have HPC : Is PS.length 8 := ⟨by rw [← hPS]; exact packs_cnt2b HCH.out (by rw [HGL.out]; decide) (by omega)⟩
    have HPS : Hid (∀ j (h : j < 8), PS[j]? = some ⟨(dataP (j + 1) ((gs R)[j]'(by rw [HGL.out]; omega))).toArray⟩) := fun j h => by rw [← hPS]; exact packs_nth2b HCH.out (by rw [HGL.out]; decide) (by omega) h
    unfold StrsTo at hpk
    rw [hPS] at hpk
    have HPK2 := Lib.hid hpk
    clear hpk hPS HPK
    go_wp2_with fail
    refine HPK2.out.mono ?_
    rintro e w6 ⟨AP, nP, cP, rfl, oP, h6⟩
    obtain rfl : nP = 8 := by rw [← HPC.out]; exact (Own.reads stC_len oP).2.1
    have M6 := Lib.hid ((M5.out.own h6 oP).nilRow (e := 87) (s := 4) (f := erC))
    have SR6 := Lib.hid (SR5.out.held h6)
    have SQ6 := Lib.hid (SQ5.out.held h6)
    clear oP h6 HPK2 M5 SR5 SQ5 s0 s1 s2 s3 sl
    go_wp2
    go_loopw [14] (fun i wr => ∃ (q cE k1 pK : Nat) (AE : Option Addr), i = .int .i64 (q : Int) ∧ q ≤ c ∧ k1 = q + 1 ∧ pK = pos at_ (gs R) q ∧ Mem W wr [.row 32 3 segC W.heap.size (.slice (some ⟨b, off, none⟩) 12 cap) R, .row 32 3 segC W.heap.size (.slice AQ 8 cQ) RQ, .box w2.heap.size #[.int .u64 1, .int .u64 (pn : Int), .int .u64 at_, .slice AQ 8 cQ] 38, .box (w2.heap.size + 1) #[.int .u64 (k1 : Int), .int .u64 (pK : Int), .slice AE 0 cE] 41, .row 9 1 stC W.heap.size (.slice AP 8 cP) PS, .row 87 4 erC W.heap.size (.slice AE 0 cE) []] ∧ Sgs 0 wr R ∧ Sgs 0 wr RQ) (fun i _ => c - (RowKit.intOf i).toNat)
    case atStart => exact ⟨0, 0, 1, at_, none, rfl, Nat.zero_le _, rfl, rfl, M6.out, SR6.out, SQ6.out⟩
    case round =>
      obtain ⟨q, cE, k1, pK, AE, rfl, hq, hk, hp, hM, hSR, hSQ⟩ := hrel
      have HK1 : Is k1 (q + 1) := ⟨hk⟩
      have HPK : Is pK (pos at_ (gs R) q) := ⟨hp⟩
      have M := Lib.hid hM
      have SR := Lib.hid hSR
      have SQ := Lib.hid hSQ
      clear hk hp hM hSR hSQ M6 SR6 SQ6
      obtain ⟨⟨r0, r1, r2⟩, ⟨rf0, rf1, rf2⟩, rl⟩ := M.out.box3 3 rfl
      have hpb := HCH.out.lt (by omega) (i := q) (by rw [HGL.out]; omega)
      have hr0 : rcvAt at_ (gs R) q [] = ⟨k1, pK, ers []⟩ := by unfold rcvAt; rw [HK1.out, HPK.out]; rfl
      by_cases hlt : q < c
      · have z2 : (q : Int) < c := by omega
        have z3 : (0 : Int) ≤ q := by omega
        have z4 : (q : Int) < 8 := by omega
        have z4d : decide ((q : Int) < 8) = true := decide_eq_true z4
        have hqn : q < 8 := by omega
        have hqg : q < (gs R).length := by rw [HGL.out]; omega
        have htk := take_next HCH.out (k := q) (m := 8) (by omega) (by rw [HGL.out]; decide) hqn
        obtain ⟨gP, xs, rfl, hgeP, hglP, hxP, hxcP⟩ := M.out.slot 4 rfl stC_len (by decide) (k := q) (by rw [HPC.out]; exact hqn)
        rw [HPS.out q hqn] at hxP
        injection hxP with hxP
        subst hxP
        have y0 := (hxcP 0 (by decide)).2 _ rfl
        simp only [Nat.mul_one, Nat.add_zero] at y0
        have hdl := dataP_len2b (n := q + 1) (g := (gs R)[q]) (by omega) (HCH.out.inn q hqg)
        obtain ⟨dp, hdp⟩ : ∃ dp, dataP (q + 1) ((gs R)[q]) = dp := ⟨_, rfl⟩
        rw [hdp] at htk y0 hdl
        obtain ⟨k2, hk2⟩ : ∃ k2, q + 1 + 1 = k2 := ⟨_, rfl⟩
        obtain ⟨p2, hp2⟩ : ∃ p2, pos at_ (gs R) (q + 1) = p2 := ⟨_, rfl⟩
        have hr1 : rcvAt at_ (gs R) (q + 1) [] = ⟨k2, p2, []⟩ := by unfold rcvAt; rw [hk2, hp2]
        rw [hr0, hr1] at htk
        have ht := fun (w' : World) => take_any k1 pK AE 0 cE [] ⟨dp.toArray⟩ 0 w' (Nat.zero_le _) (Sl.nil _ _) (Ers.nil _ _) (by omega) (by rw [ba_size]; omega)
        rw [show (⟨dp.toArray⟩ : ByteArray).data.toList = dp by simp, htk] at ht
        have HT := Lib.hid ht
        have HK2 : Is k2 (q + 1 + 1) := ⟨hk2.symm⟩
        have HP2 : Is p2 (pos at_ (gs R) (q + 1)) := ⟨hp2.symm⟩
        clear htk hdp hr0 hr1 ht hk2 hp2 hgeP hxcP hpb
        go_wp2
        go_region_law (first
          | (go_simp; go_at_call 16; refine (HT.out _).mono ?_; rintro e w6 ⟨A4, n4, c4, DA, dn, dc, R4, D4, rfl, hR4, hD4, hM6, hE6, hD6⟩; dsimp only at hR4 hD4 ⊢; have HR4 := Lib.hid hR4; have M6 := Lib.hid ((M.out.drew).two hM6); have Q6 := Lib.hid (SQ.out.held ((Held.refl wr).drew.step hM6.held)); have P6 := Lib.hid (SR.out.held ((Held.refl wr).drew.step hM6.held)); obtain ⟨⟨v0, v1, v2⟩, ⟨vf0, vf1, vf2⟩, vl⟩ := M6.out.box3 3 rfl; clear hR4 hD4 hM6 hE6 hD6))
        all_goals
          have hl4 : R4 = [] := by have := HR4.out; unfold ers at this; exact List.map_eq_nil_iff.1 this
          subst hl4
          obtain rfl : n4 = 0 := (Own.reads erC_len (M6.out.row 6 rfl)).2.1
          have MF := Lib.hid ((M6.out.put3 3 rfl (.int .u64 k2) (.int .u64 p2) (.slice A4 0 c4)).sel [0, 1, 2, 3, 4, 6] (by decide))
          have QF := Lib.hid (Q6.out.put3 (Blk.of M6.out 3 rfl (by decide) (Nat.zero_le _)) (.int .u64 k2) (.int .u64 p2) (.slice A4 0 c4))
          have PF := Lib.hid (P6.out.put3 (Blk.of M6.out 3 rfl (by decide) (Nat.zero_le _)) (.int .u64 k2) (.int .u64 p2) (.slice A4 0 c4))
          clear M6 Q6 P6 v0 v1 v2 vf0 vf1 vf2 vl
          go_wp2
          go_roundw
          case rel => exact ⟨q + 1, c4, k2, p2, A4, by go_num, by omega, HK2.out, HP2.out, MF.out, PF.out, QF.out⟩
          case measure => (simp [RowKit.intOf]) <;> omega
      · obtain rfl : q = c := by omega
        have z2 : ¬ (q : Int) < q := by omega
        have hrp := fun (w' : World) => reply_any k1 pK AE 0 cE [] 0 w' (Sl.nil _ _) (Ers.nil _ _) (by omega) (by have := HK1.out; omega) (by have := HPK.out; omega)
        rw [← hr0, reply_at HCH.out (EI.nil _ _ _ 8) (by omega) (by omega)] at hrp
        have hak : ((⟨(ackP (q + 1) (pos at_ (gs R) q)).toArray⟩ : ByteArray).size : Int) ≤ 1000000000000 := by
          rw [ba_size]
          have h1 := put_len (q + 1) (by omega)
          have h2 := put_len (pos at_ (gs R) q) hpb
          have h3 := put_len (65 :: put (pos at_ (gs R) q)).length (by rw [List.length_cons]; omega)
          unfold ackP packed
          simp only [List.length_append, be8_len, List.length_cons] at h3 ⊢
          omega
        have hac := fun (w' : World) (k : Held wr w') => acked_any 1 pn at_ AQ 8 cQ RQ ⟨(ackP (q + 1) (pos at_ (gs R) q)).toArray⟩ 0 w' (Nat.zero_le _) ((Own.reads segC_len (M.out.row 1 rfl)).1.held k) (SQ.out.held k) (by omega) hak
        have haq := acked_at HCH.out (by omega) (a := 0) (p := 8) (j := q) (Nat.zero_le _) (by rw [HGL.out]; decide) (by omega) (by omega) (by omega)
        obtain ⟨bv, hbv⟩ : ∃ bv, decide (0 < q) = bv := ⟨_, rfl⟩
        have haq2 : acked (sndAt at_ (gs R) 0 8) (ackP (q + 1) (pos at_ (gs R) q)) = (sndAt at_ (gs R) q 8, bv) := by
          rw [haq, ← hbv]
          by_cases h0 : 0 < q
          · rw [if_pos h0, decide_eq_true h0]
          · obtain rfl : q = 0 := by omega
            rfl
        have hbi : decide ((0 : Int) < q) = bv := by rw [← hbv, decide_eq_decide]; omega
        obtain ⟨GQ, hGQ⟩ : ∃ GQ, ((gs R).drop q).take (8 - q) = GQ := ⟨_, rfl⟩
        have hsn : sndAt at_ (gs R) q 8 = ⟨q + 1, pn, pK, GQ⟩ := by unfold sndAt; rw [HPN.out, HPK.out, hGQ]
        rw [hsn, HSND.out] at haq2
        rw [show (⟨(ackP (q + 1) (pos at_ (gs R) q)).toArray⟩ : ByteArray).data.toList = ackP (q + 1) (pos at_ (gs R) q) by simp, haq2] at hac
        generalize ackP (q + 1) (pos at_ (gs R) q) = ak at hrp hac
        obtain ⟨b1, hb1⟩ : ∃ b1, q + 1 = b1 := ⟨_, rfl⟩
        rw [hb1] at hac
        have HRP := Lib.hid hrp
        have HAC := Lib.hid hac
        have HGQ0 : Is (((gs R).drop q).take (8 - q)) GQ := ⟨hGQ⟩
        have HB1 : Is (q + 1) b1 := ⟨hb1⟩
        obtain ⟨⟨s0, s1, s2, s3⟩, ⟨sf0, sf1, sf2, sf3⟩, sl⟩ := M.out.box4 2 rfl
        clear hrp hac hak haq haq2 hsn hb1 hpb hr0 hGQ
        go_wp2
        go_cut [15] (fun v15 wx => ∃ (n9 c9 : Nat) (A9 : Option Addr) (R9 : List St.SR), v15 = .bool bv ∧ gs R9 = GQ ∧ Mem W wx [.row 32 3 segC W.heap.size (.slice (some ⟨b, off, none⟩) 12 cap) R, .row 32 3 segC W.heap.size (.slice A9 n9 c9) R9, .box w2.heap.size #[.int .u64 (b1 : Int), .int .u64 (pn : Int), .int .u64 (pK : Int), .slice A9 n9 c9] 38] ∧ Sgs 0 wx R ∧ Sgs 0 wx R9)
        case first =>
          go_region_law (first
            | (go_simp; go_at_call 17; refine (HAC.out _ K8.out).mono ?_; rintro e w9 ⟨A9, n9, c9, rfl, ⟨R9, hR9, oR9, sR9⟩, h9⟩; dsimp only at hR9 ⊢; have HR9 := Lib.hid hR9; have M9 := Lib.hid ((M.out.keep K8.out).own h9 oR9); have H9 := Lib.hid (K8.out.step h9); have S9 := Lib.hid sR9; obtain ⟨⟨u0, u1, u2, u3⟩, ⟨uf0, uf1, uf2, uf3⟩, ul⟩ := M9.out.box4 2 rfl; clear hR9 oR9 sR9 h9)
            | (go_simp; go_at_call 18; refine (HRP.out _).mono ?_; rintro e w8 ⟨rfl, h8⟩; have K8 := Lib.hid ((Held.refl wr).drew.step h8); obtain ⟨⟨v0, v1, v2⟩, _, vl⟩ := (M.out.keep K8.out).box3 3 rfl; obtain ⟨⟨t0', t1', t2', t3'⟩, ⟨tf0, tf1, tf2, tf3⟩, tl⟩ := (M.out.keep K8.out).box4 2 rfl; clear h8))
          all_goals
            have MF := Lib.hid ((M9.out.put4 2 rfl (.int .u64 (b1 : Int)) (.int .u64 (pn : Int)) (.int .u64 (pK : Int)) (.slice A9 n9 c9)).sel [0, 6, 2] (by decide))
            have bk := Blk.of M9.out 2 rfl (by decide) (Nat.zero_le _)
            have PF := Lib.hid ((SR.out.held H9.out).put4 bk (.int .u64 (b1 : Int)) (.int .u64 (pn : Int)) (.int .u64 (pK : Int)) (.slice A9 n9 c9))
            have QF := Lib.hid (S9.out.put4 bk (.int .u64 (b1 : Int)) (.int .u64 (pn : Int)) (.int .u64 (pK : Int)) (.slice A9 n9 c9))
            go_wp2
            go_meet
            case rel => exact ⟨n9, c9, A9, R9, rfl, HR9.out, MF.out, PF.out, QF.out⟩
        case rest =>
          obtain ⟨n9, c9, A9, R9, rfl, hR9, hM, hSR, hSQ⟩ := hcut
          have M7 := Lib.hid hM
          have P7 := Lib.hid hSR
          have Q7 := Lib.hid hSQ
          have HG7 : Is (gs R9) (((gs R).drop q).take (8 - q)) := ⟨by rw [hR9, HGQ0.out]⟩
          have HPN2 : Is pn (pos at_ (gs R) 8) := ⟨HPN.out.symm⟩
          clear hR9 hM hSR hSQ M SR SQ s0 s1 s2 s3 sf0 sf1 sf2 sf3 sl r0 r1 r2 rf0 rf1 rf2 rl HAC HRP HPS HPC
          have hbb : (bv != bv) = false := by simp
          go_wp2
          go_loopw [16] (fun i wr => ∃ (j n9 c9 tq : Nat) (A9 : Option Addr) (R9 : List St.SR), i = .int .i64 (j : Int) ∧ j ≤ q ∧ tq = pos at_ (gs R) (8 + j) ∧ gs R9 = ((gs R).drop q).take (8 + j - q) ∧ Mem W wr [.row 32 3 segC W.heap.size (.slice (some ⟨b, off, none⟩) 12 cap) R, .row 32 3 segC W.heap.size (.slice A9 n9 c9) R9, .box w2.heap.size #[.int .u64 (b1 : Int), .int .u64 (tq : Int), .int .u64 (pK : Int), .slice A9 n9 c9] 38] ∧ Sgs 0 wr R ∧ Sgs 0 wr R9) (fun i _ => q - (RowKit.intOf i).toNat)
          case atStart => exact ⟨0, n9, c9, pn, A9, R9, rfl, Nat.zero_le _, HPN2.out, HG7.out, M7.out, P7.out, Q7.out⟩
          case round =>
            obtain ⟨j, n9, c9, tq, A9, R9, rfl, hjq, htq, hg9, hM, hSR, hSQ⟩ := hrel
            have HTQ : Is tq (pos at_ (gs R) (8 + j)) := ⟨htq⟩
            have HG9 : Is (gs R9) (((gs R).drop q).take (8 + j - q)) := ⟨hg9⟩
            have M := Lib.hid hM
            have P := Lib.hid hSR
            have Q := Lib.hid hSQ
            have hR9l : R9.length = 8 + j - q := by
              have := congrArg List.length hg9
              rw [gs_len, List.length_take, List.length_drop, HGL.out] at this
              omega
            have hn9 : n9 = 8 + j - q := by rw [← hR9l]; exact (Own.reads segC_len (hM.row 1 rfl)).2.1
            have hn98 : n9 ≤ 8 := by omega
            have HN9 : Is n9 (8 + j - q) := ⟨hn9⟩
            clear htq hg9 hM hSR hSQ M7 P7 Q7 HG7 HPN2 hR9l hn9
            obtain ⟨⟨s0, s1, s2, s3⟩, ⟨sf0, sf1, sf2, sf3⟩, sl⟩ := M.out.box4 2 rfl
            have hsn : sndAt at_ (gs R) q (8 + j) = ⟨b1, tq, pK, gs R9⟩ := by unfold sndAt; rw [HB1.out, ← HTQ.out, ← HPK.out, HG9.out]
            have HSN : Hid (sndAt at_ (gs R) q (8 + j) = ⟨b1, tq, pK, gs R9⟩) := hsn
            clear hsn
            have MZ := Lib.hid (M.out.alloc #[.int .u64 0, .int .u64 0, .int .u64 0, .slice none 0 0] 38)
            have hZ := Lib.hid ((Held.refl wr).alloc (.cells #[.int .u64 0, .int .u64 0, .int .u64 0, .slice none 0 0] 38)).drew
            by_cases hlt2 : j < q
            · have z5 : (j : Int) < q := by omega
              obtain ⟨ix, hix⟩ : ∃ ix, 8 + j = ix := ⟨_, rfl⟩
              obtain ⟨b', off', f', kn', YA, yn, yc, es', he, hb', hy, y0, y1, y2⟩ := segAt (Own.reads segC_len (M.out.row 0 rfl)).1 (Held.refl _) (k := ix) (by omega)
              injection he with he
              injection he with he1 he2
              subst he1 he2
              have hyg : ix < (gs R).length := by rw [HGL.out]; omega
              have hye : (gs R)[ix] = ⟨f', kn', es'⟩ := by
                have := gs_at hy
                rw [List.getElem?_eq_getElem hyg] at this
                injection this
              have hpu := push_at HCH.out (a := q) (p := ix) (by omega) hyg (by omega) (by omega)
              have hsn2 := HSN.out
              rw [hix] at hsn2
              rw [if_pos (by omega), hye, hsn2] at hpu
              obtain ⟨t2, ht2⟩ : ∃ t2, pos at_ (gs R) (ix + 1) = t2 := ⟨_, rfl⟩
              obtain ⟨G2, hG2⟩ : ∃ G2, ((gs R).drop q).take (ix + 1 - q) = G2 := ⟨_, rfl⟩
              have hs3 : sndAt at_ (gs R) q (ix + 1) = ⟨b1, t2, pK, G2⟩ := by unfold sndAt; rw [HB1.out, ← HPK.out, ht2, hG2]
              rw [hs3] at hpu
              have hpc := fun (w' : World) (k : Held wr w') => push_any b1 tq pK A9 n9 c9 R9 f' kn' YA yn yc es' 0 w' (Nat.zero_le _) ((Own.reads segC_len (M.out.row 1 rfl)).1.held k) (Q.out.held k) (by omega) ((P.out.at_ hy).held k)
              rw [hpu] at hpc
              have HPC2 := Lib.hid hpc
              have HT2 : Is t2 (pos at_ (gs R) (8 + (j + 1))) := ⟨by rw [← ht2, ← hix]; rfl⟩
              have HG2 : Is G2 (((gs R).drop q).take (8 + (j + 1) - q)) := ⟨by rw [← hG2, ← hix]; rfl⟩
              have hiw : IntKind.i64.wrap ((8 : Int) + j) = (ix : Int) := by rw [IntWalk.i64_in _ (by omega)]; omega
              have hiw2 : (8 : Int) + j = (ix : Int) := by omega
              have hil : (ix : Int) < 12 := by omega
              have hiw3 : IntKind.i64.wrap (ix : Int) = (ix : Int) := IntWalk.i64_in _ (by omega)
              have hi0 : (0 : Int) ≤ ix := by omega
              clear hpu hpc hs3 hsn2 ht2 hG2 hy hye hix HSN
              go_wp2
              go_region_law (first
                | (go_simp; go_at_call 19; refine (HPC2.out _ (Held.refl _).drew).mono ?_; rintro e w4 ⟨A4, n4, c4, rfl, ⟨R4, hR4, oR4, sR4⟩, h4⟩; dsimp only at hR4 ⊢; have HR4 := Lib.hid hR4; have MB := Lib.hid ((M.out.drew).own h4 oR4); have SB := Lib.hid sR4; have SRB := Lib.hid (P.out.held ((Held.refl _).drew.step h4)); have SQB := Lib.hid (Q.out.held ((Held.refl _).drew.step h4)); clear hR4 oR4 sR4 h4)
                | (go_simp; go_at_call 19; refine (HPC2.out _ hZ.out).mono ?_; rintro e w4 ⟨A4, n4, c4, rfl, ⟨R4, hR4, oR4, sR4⟩, h4⟩; dsimp only at hR4 ⊢; have HR4 := Lib.hid hR4; have MA := Lib.hid ((MZ.out.drew).own h4 oR4); have SA := Lib.hid sR4; have SRA := Lib.hid (P.out.held (hZ.out.step h4)); have SQA := Lib.hid (Q.out.held (hZ.out.step h4)); obtain ⟨⟨z0, z1, z2', z3'⟩, ⟨zf0, zf1, zf2, zf3⟩, zl⟩ := MA.out.box4 3 rfl; clear hR4 oR4 sR4 h4))
              all_goals
                first
                | (have MX := Lib.hid (MA.out.put4 3 rfl (.int .u64 (b1 : Int)) (.int .u64 (t2 : Int)) (.int .u64 (pK : Int)) (.slice A4 n4 c4)); have bk := Blk.of MA.out 3 rfl (by decide) (Nat.zero_le _); have SX := Lib.hid (SA.out.put4 bk (.int .u64 (b1 : Int)) (.int .u64 (t2 : Int)) (.int .u64 (pK : Int)) (.slice A4 n4 c4)); have SRX := Lib.hid (SRA.out.put4 bk (.int .u64 (b1 : Int)) (.int .u64 (t2 : Int)) (.int .u64 (pK : Int)) (.slice A4 n4 c4)); have SQX := Lib.hid (SQA.out.put4 bk (.int .u64 (b1 : Int)) (.int .u64 (t2 : Int)) (.int .u64 (pK : Int)) (.slice A4 n4 c4)); clear z0 z1 z2' z3' zf0 zf1 zf2 zf3 zl MA SA SRA SQA bk)
                | (have MX := Lib.hid ((MB.out.alloc #[.int .u64 (b1 : Int), .int .u64 (t2 : Int), .int .u64 (pK : Int), .slice A4 n4 c4] 38).sel [0, 1, 2, 4, 3] (by decide)); have hN := (Held.refl w4).alloc (.cells #[.int .u64 (b1 : Int), .int .u64 (t2 : Int), .int .u64 (pK : Int), .slice A4 n4 c4] 38); have SX := Lib.hid (SB.out.held hN); have SRX := Lib.hid (SRB.out.held hN); have SQX := Lib.hid (SQB.out.held hN); clear MB SB SRB SQB hN)
                have MF := Lib.hid ((MX.out.put4 2 rfl (.int .u64 (b1 : Int)) (.int .u64 (t2 : Int)) (.int .u64 (pK : Int)) (.slice A4 n4 c4)).sel [0, 4, 2] (by decide))
                have bk := Blk.of MX.out 2 rfl (by decide) (Nat.zero_le _)
                have PF := Lib.hid (SRX.out.put4 bk (.int .u64 (b1 : Int)) (.int .u64 (t2 : Int)) (.int .u64 (pK : Int)) (.slice A4 n4 c4))
                have QF := Lib.hid (SX.out.put4 bk (.int .u64 (b1 : Int)) (.int .u64 (t2 : Int)) (.int .u64 (pK : Int)) (.slice A4 n4 c4))
                have hne := MX.out.ne 2 3 rfl rfl (by decide)
                have hne2 := MX.out.ne 3 2 rfl rfl (by decide)
                clear s0 s1 s2 s3 sf0 sf1 sf2 sf3 sl bk y0 y1 y2 MZ hZ HPC2 M P Q
                obtain ⟨⟨s0, s1, s2, s3⟩, ⟨sf0, sf1, sf2, sf3⟩, sl⟩ := MX.out.box4 2 rfl
                obtain ⟨⟨x0, x1, x2, x3⟩, _, xl⟩ := MX.out.box4 3 rfl
                go_wp2
                go_roundw
                case rel => exact ⟨j + 1, n4, c4, t2, A4, R4, by go_num, by omega, HT2.out, by rw [HR4.out, HG2.out], MF.out, PF.out, QF.out⟩
                case measure => (simp [RowKit.intOf]) <;> omega
            · obtain rfl : j = q := by omega
              have z5 : ¬ (j : Int) < j := by omega
              have h98 : n9 = 8 := by have := HN9.out; omega
              subst h98
              have hbq := HB1.out
              by_cases h4 : j = 4
              · subst h4
                have hb5 : b1 = 5 := by omega
                subst hb5
                clear hbq MZ hZ
                go_wp2_with (go_at_call 8; refine (HAW.out _).mono ?_; rintro e w7 ⟨rfl, h7⟩)
                go_ret
                exact ⟨rfl, M.out.held.step h7⟩
              · have h4b : ((j : Int) == 4) = false := by rw [beq_eq_false_iff_ne]; omega
                have hbi2 : (j : Int) + 1 = (b1 : Int) := by omega
                obtain ⟨ix, hix⟩ : ∃ ix, 8 + j = ix := ⟨_, rfl⟩
                obtain ⟨b', off', f', kn', YA, yn, yc, es', he, hb', hy, y0, y1, y2⟩ := segAt (Own.reads segC_len (M.out.row 0 rfl)).1 (Held.refl _) (k := ix) (by omega)
                injection he with he
                injection he with he1 he2
                subst he1 he2
                have hyg : ix < (gs R).length := by rw [HGL.out]; omega
                have hye : (gs R)[ix] = ⟨f', kn', es'⟩ := by
                  have := gs_at hy
                  rw [List.getElem?_eq_getElem hyg] at this
                  injection this
                have hpu := push_at HCH.out (a := j) (p := ix) (by omega) hyg (by omega) (by omega)
                have hsn2 := HSN.out
                rw [hix] at hsn2
                rw [if_neg (by omega), hye, hsn2] at hpu
                have hpc := fun (w' : World) (k : Held wr w') => push_any b1 tq pK A9 8 c9 R9 f' kn' YA yn yc es' 0 w' (Nat.zero_le _) ((Own.reads segC_len (M.out.row 1 rfl)).1.held k) (Q.out.held k) (by omega) ((P.out.at_ hy).held k)
                rw [hpu] at hpc
                have HPC2 := Lib.hid hpc
                have hiw : IntKind.i64.wrap ((8 : Int) + j) = (ix : Int) := by rw [IntWalk.i64_in _ (by omega)]; omega
                have hiw2 : (8 : Int) + j = (ix : Int) := by omega
                have hil : (ix : Int) < 12 := by omega
                have hiw3 : IntKind.i64.wrap (ix : Int) = (ix : Int) := IntWalk.i64_in _ (by omega)
                have hi0 : (0 : Int) ≤ ix := by omega
                clear hpu hpc hsn2 hy hye hix HSN hbq h4
                go_wp2
                go_region_law (first
                  | (go_simp; go_at_call 19; refine (HPC2.out _ (Held.refl _).drew).mono ?_; rintro e w4 ⟨A4, n4, c4, rfl, ⟨R4, hR4, oR4, sR4⟩, h4⟩; dsimp only at hR4 ⊢; have HR4 := Lib.hid hR4; have MB := Lib.hid ((M.out.drew).own h4 oR4); have SB := Lib.hid sR4; have SRB := Lib.hid (P.out.held ((Held.refl _).drew.step h4)); have SQB := Lib.hid (Q.out.held ((Held.refl _).drew.step h4)); clear hR4 oR4 sR4 h4)
                  | (go_simp; go_at_call 19; refine (HPC2.out _ hZ.out).mono ?_; rintro e w4 ⟨A4, n4, c4, rfl, ⟨R4, hR4, oR4, sR4⟩, h4⟩; dsimp only at hR4 ⊢; have HR4 := Lib.hid hR4; have MA := Lib.hid ((MZ.out.drew).own h4 oR4); have SA := Lib.hid sR4; have SRA := Lib.hid (P.out.held (hZ.out.step h4)); have SQA := Lib.hid (Q.out.held (hZ.out.step h4)); obtain ⟨⟨z0, z1, z2', z3'⟩, ⟨zf0, zf1, zf2, zf3⟩, zl⟩ := MA.out.box4 3 rfl; clear hR4 oR4 sR4 h4))
                all_goals
                  first
                  | (have MX := Lib.hid (MA.out.put4 3 rfl (.int .u64 (b1 : Int)) (.int .u64 (tq : Int)) (.int .u64 (pK : Int)) (.slice A4 n4 c4)); have bk := Blk.of MA.out 3 rfl (by decide) (Nat.zero_le _); have SX := Lib.hid (SA.out.put4 bk (.int .u64 (b1 : Int)) (.int .u64 (tq : Int)) (.int .u64 (pK : Int)) (.slice A4 n4 c4)); have SRX := Lib.hid (SRA.out.put4 bk (.int .u64 (b1 : Int)) (.int .u64 (tq : Int)) (.int .u64 (pK : Int)) (.slice A4 n4 c4)); have SQX := Lib.hid (SQA.out.put4 bk (.int .u64 (b1 : Int)) (.int .u64 (tq : Int)) (.int .u64 (pK : Int)) (.slice A4 n4 c4)); clear z0 z1 z2' z3' zf0 zf1 zf2 zf3 zl MA SA SRA SQA bk)
                  | (have MX := Lib.hid ((MB.out.alloc #[.int .u64 (b1 : Int), .int .u64 (tq : Int), .int .u64 (pK : Int), .slice A4 n4 c4] 38).sel [0, 1, 2, 4, 3] (by decide)); have hN := (Held.refl w4).alloc (.cells #[.int .u64 (b1 : Int), .int .u64 (tq : Int), .int .u64 (pK : Int), .slice A4 n4 c4] 38); have SX := Lib.hid (SB.out.held hN); have SRX := Lib.hid (SRB.out.held hN); have SQX := Lib.hid (SQB.out.held hN); clear MB SB SRB SQB hN)
                  clear s0 s1 s2 s3 sf0 sf1 sf2 sf3 sl y0 y1 y2 MZ hZ HPC2 M P Q
                  obtain ⟨⟨s0, s1, s2, s3⟩, _, sl⟩ := MX.out.box4 2 rfl
                  go_wp2_with (go_at_call 8; refine (HAW.out _).mono ?_; rintro e w7 ⟨rfl, h7⟩)
                  go_ret
                  exact ⟨rfl, MX.out.held.step h7⟩
end St
end Go.Proofs.Ythpjbffhdaaibaa
