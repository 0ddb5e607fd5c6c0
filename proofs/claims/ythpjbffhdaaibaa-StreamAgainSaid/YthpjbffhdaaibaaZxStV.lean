/-
  Chapter 24: StreamAgain: the walk.
-/
import Derived.Test.YthpjbffhdaaibaaZxStT
set_option linter.unusedVariables false
set_option linter.unusedSimpArgs false
set_option maxRecDepth 100000
namespace Go.Proofs.Ythpjbffhdaaibaa
open Go.RowKit Go.BigFrame Go.Sort Go.Lib
namespace St
open Enc Uv Lg Lgc Strs
theorem dataP_len2 {n : Nat} {g : Seg} (hn : n < 18446744073709551616) (hg : SegIn g) : (dataP n g).length ≤ 100000 := by
  have h := body_len g hg
  have h1 := put_len n hn
  have h2 := put_len ((body g).1.length + 1) (by omega)
  unfold dataP packed
  simp only [List.length_append, be8_len, List.length_cons]
  omega
theorem packs_nth2 {at_ : Nat} {G : List Seg} (h : Ch at_ G) {n : Nat} (hn : n ≤ G.length) (h8 : n ≤ 8) {j : Nat} (hj : j < n) : (strs (packets (sndAt at_ G 0 n)))[j]? = some ⟨(dataP (j + 1) (G[j]'(by omega))).toArray⟩ := by
  rw [packets_at h (Nat.zero_le _) hn (by omega) (by omega)]
  unfold strs
  rw [List.getElem?_map, List.getElem?_map, List.getElem?_range (by omega)]
  simp only [Option.map_some, Nat.zero_add]
  rw [List.getD_eq_getElem?_getD, List.getElem?_eq_getElem (by omega)]; rfl
theorem packs_cnt2 {at_ : Nat} {G : List Seg} (h : Ch at_ G) {n : Nat} (hn : n ≤ G.length) (h8 : n ≤ 8) : (strs (packets (sndAt at_ G 0 n))).length = n := by
  rw [packets_at h (Nat.zero_le _) hn (by omega) (by omega)]
  unfold strs
  rw [List.length_map, List.length_map, List.length_range]; rfl
theorem sameRcv0_any (b kn : Nat) (A1 A2 : Option Addr) (c1 c2 : Nat) (w : World) : Calls Try.prog 21 #[.agg #[.int .u64 b, .int .u64 kn, .slice A1 0 c1], .agg #[.int .u64 b, .int .u64 kn, .slice A2 0 c2]] w (TrueTo w) := by
  have M := Lib.hid (((Mem.start w).alloc' (b := w.heap.size) rfl #[.int .u64 b, .int .u64 kn, .slice A1 0 c1] 41).alloc' (b := w.heap.size + 1) (by simp) #[.int .u64 b, .int .u64 kn, .slice A2 0 c2] 41)
  go_enter Try.func21, Try.ntmps21
  go_wp2
  go_loopw [5] (fun i wr => i = .int .i64 0 ∧ Mem w wr [.box w.heap.size #[.int .u64 b, .int .u64 kn, .slice A1 0 c1] 41, .box (w.heap.size + 1) #[.int .u64 b, .int .u64 kn, .slice A2 0 c2] 41]) (fun _ _ => 0)
  case atStart => exact ⟨rfl, M.out⟩
  case round =>
    obtain ⟨rfl, hM⟩ := hrel
    have M2 := Lib.hid hM
    obtain ⟨⟨c0', c1', c2'⟩, _, l1⟩ := M2.out.box3 0 rfl
    obtain ⟨⟨d0', d1', d2'⟩, _, l2⟩ := M2.out.box3 1 rfl
    go_wp2
    go_ret
    exact ⟨rfl, M2.out.held⟩
set_option maxHeartbeats 1000000 in
theorem again (o0 : Option Addr) (len0 cap0 : Nat) (z0 : List Int) (a1 a2 : Int) (w1 : (Lit.int .u64 a1).wf = true) (w2 : (Lit.int .i64 a2).wf = true) (W : World) (w0 : Rw.IsRow .i64 W o0 len0 cap0 z0) :
    Calls Try.prog 6 #[.slice o0 len0 cap0, .int .u64 a1, .int .i64 a2] W fun e w' => e = .returned (.bool true) ∧ Below W.heap.size W w' := by
  have hat := Rw.bd_u64 w1
  have ha2 := Rw.bd_i64 w2
  obtain ⟨at_, rfl⟩ := Int.eq_ofNat_of_zero_le hat.1
  obtain ⟨L, hL, hmx, hLb⟩ := nums_in w0
  have HAW := Lib.hid awake_any
  by_cases t0 : (len0 : Int) < 1
  · clear hL hLb w0 w1 w2
    go_enter Try.func6, Try.ntmps6
    go_wp2_with (go_at_call 8; refine (HAW.out _).mono ?_; rintro e w1 ⟨rfl, h1⟩)
    go_ret
    exact ⟨rfl, h1⟩
  have t0d : decide ((len0 : Int) < 1) = false := decide_eq_false t0
  by_cases t1 : (8 : Int) < len0
  · clear hL hLb w0 w1 w2
    go_enter Try.func6, Try.ntmps6
    go_wp2_with (go_at_call 8; refine (HAW.out _).mono ?_; rintro e w1 ⟨rfl, h1⟩)
    go_ret
    exact ⟨rfl, h1⟩
  have t1d : decide ((8 : Int) < len0) = false := decide_eq_false t1
  by_cases t2 : (1099511627776 : Int) < at_
  · clear hL hLb w0 w1 w2
    go_enter Try.func6, Try.ntmps6
    go_wp2_with (go_at_call 8; refine (HAW.out _).mono ?_; rintro e w1 ⟨rfl, h1⟩)
    go_ret
    exact ⟨rfl, h1⟩
  have t2d : decide ((1099511627776 : Int) < at_) = false := decide_eq_false t2
  have HSG := Lib.hid (segments_any o0 len0 cap0 L at_ 0 W (Nat.zero_le _) hL hLb (by omega) (by omega))
  clear hL hLb w0 w1 w2
  go_enter Try.func6, Try.ntmps6
  go_wp2_with fail
  refine HSG.out.mono ?_
  rintro e w1 ⟨A, cap, R, rfl, hRl, hch, oR, sR, h1⟩
  have M1 := Lib.hid ((Mem.start W).own h1 oR)
  have HRL : Is R.length len0 := ⟨hRl⟩
  have hgl : (gs R).length = len0 := by rw [gs_len]; exact hRl
  have HGL : Is (gs R).length len0 := ⟨hgl⟩
  have hs2 := started_any A len0 cap R at_ 0 w1 (Nat.zero_le _) (Own.reads segC_len oR).1 sR hch (by omega) (by omega)
  unfold StTo at hs2
  rw [hgl, show min len0 8 = len0 by omega, List.take_of_length_le (by omega)] at hs2
  have HST := Lib.hid hs2
  have HCH := Lib.hid hch
  have S1 := Lib.hid sR
  clear hRl hch oR sR h1 HSG hs2 hgl
  go_wp2_with fail
  refine HST.out.mono ?_
  rintro e w2 ⟨AQ, nQ, cQ, rfl, ⟨RQ, hRQ, oQ, sQ⟩, h2⟩
  have hQl : RQ.length = len0 := by have := congrArg List.length hRQ; rw [gs_len, HGL.out] at this; exact this
  obtain rfl : nQ = len0 := by rw [← hQl]; exact (Own.reads segC_len oQ).2.1
  have HRQ := Lib.hid hRQ
  obtain ⟨pn, hpn⟩ : ∃ pn, pos at_ (gs R) nQ = pn := ⟨_, rfl⟩
  rw [hpn]
  have M2 := Lib.hid (((M1.out.own h2 oQ).alloc #[.int .u64 1, .int .u64 (pn : Int), .int .u64 at_, .slice AQ nQ cQ] 38).alloc' (b := w2.heap.size + 1) (by simp) #[.int .u64 1, .int .u64 at_, .slice none 0 0] 41)
  have hA2 := ((Held.refl w2).alloc (.cells #[.int .u64 1, .int .u64 (pn : Int), .int .u64 at_, .slice AQ nQ cQ] 38)).alloc (.cells #[.int .u64 1, .int .u64 at_, .slice none 0 0] 41)
  have S2 := Lib.hid ((S1.out.held h2).held hA2)
  have Q2 := Lib.hid (sQ.held hA2)
  have hpk := packets_any 1 pn at_ AQ nQ cQ RQ 0 _ ((Own.reads segC_len (M2.out.row 1 rfl)).1) Q2.out (by omega)
  have hsnd : sndAt at_ (gs R) 0 nQ = ⟨1, pn, at_, gs RQ⟩ := by rw [sndAt0, hpn, HRQ.out, List.take_of_length_le (by rw [HGL.out]; exact Nat.le_refl _)]
  rw [← hsnd] at hpk
  have HPK := Lib.hid hpk
  have HPN := Lib.hid hpn
  have HSND := Lib.hid hsnd
  obtain ⟨⟨c0, c1, c2, c3⟩, _, cl⟩ := M2.out.box4 2 rfl
  clear hQl hRQ oQ sQ h2 hA2 hpk hsnd HST M1 S1 hpn
  go_wp2_with fail
  refine HPK.out.mono ?_
  rintro e w3 ⟨AP, nP, cP, rfl, oP, h3⟩
  have hPl := packs_cnt2 HCH.out (n := nQ) (by rw [HGL.out]; exact Nat.le_refl _) (by omega)
  obtain rfl : nP = nQ := by rw [← hPl]; exact (Own.reads stC_len oP).2.1
  have M3 := Lib.hid ((((M2.out.own h3 oP).nilRow (e := 87) (s := 4) (f := erC))).nilRow (e := 32) (s := 3) (f := segC))
  have S3 := Lib.hid (S2.out.held h3)
  have Q3 := Lib.hid (Q2.out.held h3)
  clear oP h3 HPK M2 S2 Q2 c0 c1 c2 c3 cl hPl
  obtain ⟨PS, hPS⟩ : ∃ PS, strs (packets (sndAt at_ (gs R) 0 nP)) = PS := ⟨_, rfl⟩
  have HPC : Is PS.length nP := ⟨by rw [← hPS]; exact packs_cnt2 HCH.out (by rw [HGL.out]; exact Nat.le_refl _) (by omega)⟩
  have HPS : Hid (∀ j (h : j < nP), PS[j]? = some ⟨(dataP (j + 1) ((gs R)[j]'(by rw [HGL.out]; exact h))).toArray⟩) := fun j h => by rw [← hPS]; exact packs_nth2 HCH.out (by rw [HGL.out]; exact Nat.le_refl _) (by omega) h
  rw [hPS] at M3
  have M4 := Lib.hid (M3.out.sel [1, 2, 3, 4, 5] (by decide))
  have HR := Lib.hid fun w => Mk.round_any a2 nP ha2.1 ha2.2 (by omega) (by omega) w
  have hrb := Mk.round_bd a2 nP (by omega)
  generalize Mk.round a2 nP = jr at HR hrb
  obtain ⟨jr, rfl⟩ := Int.eq_ofNat_of_zero_le hrb.1
  obtain ⟨kk, hkk⟩ : ∃ kk, jr + 1 = kk := ⟨_, rfl⟩
  have hkc : (jr : Int) + 1 = (kk : Int) := by omega
  have hkn : kk ≤ nP := by omega
  have hk1 : 1 ≤ kk := by omega
  clear hPS hkk M3 S3 hrb
  go_wp2_with fail
  refine (HR.out _).mono ?_
  rintro e w4 ⟨rfl, rfl⟩
  clear HR
  go_wp2
  go_loopw [13] (fun i wr => ∃ (q cE k1 pK : Nat) (AE : Option Addr), i = .int .i64 (q : Int) ∧ q ≤ kk ∧ k1 = q + 1 ∧ pK = pos at_ (gs R) q ∧ Mem W wr [.row 32 3 segC W.heap.size (.slice AQ nP cQ) RQ, .box w2.heap.size #[.int .u64 1, .int .u64 (pn : Int), .int .u64 at_, .slice AQ nP cQ] 38, .box (w2.heap.size + 1) #[.int .u64 (k1 : Int), .int .u64 (pK : Int), .slice AE 0 cE] 41, .row 9 1 stC W.heap.size (.slice AP nP cP) PS, .row 87 4 erC W.heap.size (.slice AE 0 cE) []] ∧ Sgs 0 wr RQ) (fun i _ => kk - (RowKit.intOf i).toNat)
  case atStart => exact ⟨0, 0, 1, at_, none, rfl, Nat.zero_le _, rfl, rfl, M4.out, Q3.out⟩
  case round =>
    obtain ⟨q, cE, k1, pK, AE, rfl, hq, hk, hp, hM, hSQ⟩ := hrel
    have HK1 : Is k1 (q + 1) := ⟨hk⟩
    have HPK : Is pK (pos at_ (gs R) q) := ⟨hp⟩
    have M := Lib.hid hM
    have SQ := Lib.hid hSQ
    clear hk hp hM hSQ M4 Q3
    obtain ⟨⟨r0, r1, r2⟩, ⟨rf0, rf1, rf2⟩, rl⟩ := M.out.box3 2 rfl
    have hpb := HCH.out.lt (by omega) (i := q) (by rw [HGL.out]; omega)
    have hr0 : rcvAt at_ (gs R) q [] = ⟨k1, pK, ers []⟩ := by unfold rcvAt; rw [HK1.out, HPK.out]; rfl
    by_cases hlt : q < kk
    · have z2 : (q : Int) < kk := by omega
      have z3 : (0 : Int) ≤ q := by omega
      have z4 : (q : Int) < nP := by omega
      have hqn : q < nP := by omega
      have hqg : q < (gs R).length := by rw [HGL.out]; omega
      have htk := take_next HCH.out (k := q) (m := nP) (by omega) (by rw [HGL.out]; exact Nat.le_refl _) hqn
      obtain ⟨gP, xs, rfl, hgeP, hglP, hxP, hxcP⟩ := M.out.slot 3 rfl stC_len (by decide) (k := q) (by rw [HPC.out]; exact hqn)
      rw [HPS.out q hqn] at hxP
      injection hxP with hxP
      subst hxP
      have y0 := (hxcP 0 (by decide)).2 _ rfl
      simp only [Nat.mul_one, Nat.add_zero] at y0
      have hdl := dataP_len2 (n := q + 1) (g := (gs R)[q]) (by omega) (HCH.out.inn q hqg)
      obtain ⟨dp, hdp⟩ : ∃ dp, dataP (q + 1) ((gs R)[q]) = dp := ⟨_, rfl⟩
      rw [hdp] at htk y0 hdl
      obtain ⟨k2, hk2⟩ : ∃ k2, q + 1 + 1 = k2 := ⟨_, rfl⟩
      obtain ⟨p2, hp2⟩ : ∃ p2, pos at_ (gs R) (q + 1) = p2 := ⟨_, rfl⟩
      have hr1 : rcvAt at_ (gs R) (q + 1) [] = ⟨k2, p2, []⟩ := by unfold rcvAt; rw [hk2, hp2]
      rw [hr0, hr1] at htk
      have ht := fun (w' : World) => take_any k1 pK AE 0 cE [] ⟨dp.toArray⟩ 0 w' (Nat.zero_le _) (Sl.nil _ _) (Ers.nil _ _) (by omega) (by rw [ba_size]; omega)
      rw [show (⟨dp.toArray⟩ : ByteArray).data.toList = dp by simp, htk] at ht
      have HT := Lib.hid ht
      have HK2 : Is k2 (q + 1 + 1) := ⟨hk2.symm⟩
      have HP2 : Is p2 (pos at_ (gs R) (q + 1)) := ⟨hp2.symm⟩
      clear htk hdp hr0 hr1 ht hk2 hp2 hgeP hxcP hpb
      go_wp2
      go_region_law (first
        | (go_simp; go_at_call 16; refine (HT.out _).mono ?_; rintro e w6 ⟨A4, n4, c4, DA, dn, dc, R4, D4, rfl, hR4, hD4, hM6, hE6, hD6⟩; dsimp only at hR4 hD4 ⊢; have HR4 := Lib.hid hR4; have M6 := Lib.hid ((M.out.drew).two hM6); have Q6 := Lib.hid (SQ.out.held ((Held.refl wr).drew.step hM6.held)); obtain ⟨⟨v0, v1, v2⟩, ⟨vf0, vf1, vf2⟩, vl⟩ := M6.out.box3 2 rfl; clear hR4 hD4 hM6 hE6 hD6))
      all_goals
        have hl4 : R4 = [] := by have := HR4.out; unfold ers at this; exact List.map_eq_nil_iff.1 this
        subst hl4
        obtain rfl : n4 = 0 := (Own.reads erC_len (M6.out.row 5 rfl)).2.1
        have MF := Lib.hid ((M6.out.put3 2 rfl (.int .u64 k2) (.int .u64 p2) (.slice A4 0 c4)).sel [0, 1, 2, 3, 5] (by decide))
        have QF := Lib.hid (Q6.out.put3 (Blk.of M6.out 2 rfl (by decide) (Nat.zero_le _)) (.int .u64 k2) (.int .u64 p2) (.slice A4 0 c4))
        clear M6 Q6 v0 v1 v2 vf0 vf1 vf2 vl
        go_wp2
        go_roundw
        case rel => exact ⟨q + 1, c4, k2, p2, A4, by go_num, by omega, HK2.out, HP2.out, MF.out, QF.out⟩
        case measure => (simp [RowKit.intOf]) <;> omega
    · obtain rfl : q = kk := by omega
      have z2 : ¬ (q : Int) < q := by omega
      have hrp := fun (w' : World) => reply_any k1 pK AE 0 cE [] 0 w' (Sl.nil _ _) (Ers.nil _ _) (by omega) (by have := HK1.out; omega) (by have := HPK.out; omega)
      rw [← hr0, reply_at HCH.out (EI.nil _ _ _ nP) (by omega) (by omega)] at hrp
      have hak : ((⟨(ackP (q + 1) (pos at_ (gs R) q)).toArray⟩ : ByteArray).size : Int) ≤ 1000000000000 := by
        rw [ba_size]
        have h1 := put_len (q + 1) (by omega)
        have h2 := put_len (pos at_ (gs R) q) hpb
        have h3 := put_len (65 :: put (pos at_ (gs R) q)).length (by rw [List.length_cons]; omega)
        unfold ackP packed
        simp only [List.length_append, be8_len, List.length_cons] at h3 ⊢
        omega
      have hac := fun (w' : World) (k : Held wr w') => acked_any 1 pn at_ AQ nP cQ RQ ⟨(ackP (q + 1) (pos at_ (gs R) q)).toArray⟩ 0 w' (Nat.zero_le _) ((Own.reads segC_len (M.out.row 0 rfl)).1.held k) (SQ.out.held k) (by omega) hak
      have haq := acked_at HCH.out (by omega) (a := 0) (p := nP) (j := q) (Nat.zero_le _) (by rw [HGL.out]; exact Nat.le_refl _) (by omega) (by omega) hkn
      rw [if_pos (by omega), HSND.out] at haq
      have haq2 := acked_at HCH.out (by omega) (a := q) (p := nP) (j := q) hkn (by rw [HGL.out]; exact Nat.le_refl _) (by omega) (by omega) hkn
      rw [if_neg (by omega)] at haq2
      rw [show (⟨(ackP (q + 1) (pos at_ (gs R) q)).toArray⟩ : ByteArray).data.toList = ackP (q + 1) (pos at_ (gs R) q) by simp, haq] at hac
      have hlist : (⟨(ackP (q + 1) (pos at_ (gs R) q)).toArray⟩ : ByteArray).data.toList = ackP (q + 1) (pos at_ (gs R) q) := by simp
      obtain ⟨GQ, hGQ⟩ : ∃ GQ, ((gs R).drop q).take (nP - q) = GQ := ⟨_, rfl⟩
      have hsn : sndAt at_ (gs R) q nP = ⟨q + 1, pn, pK, GQ⟩ := by unfold sndAt; rw [HPN.out, HPK.out, hGQ]
      have hql : GQ.length ≤ 8 := by rw [← hGQ, List.length_take]; omega
      rw [hsn] at hac haq2
      generalize ackP (q + 1) (pos at_ (gs R) q) = ak at hrp hac haq2 hlist hak
      obtain ⟨b1, hb1⟩ : ∃ b1, q + 1 = b1 := ⟨_, rfl⟩
      rw [hb1] at hac haq2
      have HRP := Lib.hid hrp
      have HAC := Lib.hid hac
      have HAQ2 := Lib.hid haq2
      have HAK := Lib.hid hak
      have HQL := Lib.hid hql
      obtain ⟨⟨s0, s1, s2, s3⟩, ⟨sf0, sf1, sf2, sf3⟩, sl⟩ := M.out.box4 1 rfl
      clear hrp hac hak haq haq2 hsn hlist hb1 hql hpb hr0
      go_wp2_with fail
      refine (HRP.out _).mono ?_
      rintro e w5 ⟨rfl, h5⟩
      have H5 := Lib.hid h5
      have M5 := Lib.hid (M.out.keep h5)
      clear h5 HRP r0 r1 r2 rf0 rf1 rf2 rl s0 s1 s2 s3 sf0 sf1 sf2 sf3 sl
      obtain ⟨⟨s0, s1, s2, s3⟩, ⟨sf0, sf1, sf2, sf3⟩, sl⟩ := M5.out.box4 1 rfl
      go_wp2_with fail
      refine (HAC.out _ H5.out).mono ?_
      rintro e w6 ⟨A6, n6, c6, rfl, ⟨R6, hR6, oR6, sR6⟩, h6⟩
      dsimp only at hR6 ⊢
      have HR6 := Lib.hid hR6
      have hn6 : n6 ≤ 8 := by
        have h1 := (Own.reads segC_len oR6).2.1
        have h2 := congrArg List.length hR6
        rw [gs_len] at h2
        have := HQL.out
        omega
      have M6 := Lib.hid (M5.out.own h6 oR6)
      have M7 := Lib.hid (M6.out.put4 1 rfl (.int .u64 b1) (.int .u64 pn) (.int .u64 pK) (.slice A6 n6 c6))
      have S7 := Lib.hid (Sgs.put4 sR6 (Blk.of M6.out 1 rfl (by decide) (Nat.zero_le _)) (.int .u64 b1) (.int .u64 pn) (.int .u64 pK) (.slice A6 n6 c6))
      obtain ⟨⟨s0', s1', s2', s3'⟩, ⟨sf0', sf1', sf2', sf3'⟩, sl'⟩ := M6.out.box4 1 rfl
      obtain ⟨w7, hw7⟩ : ∃ w7, (((w6.setCell ⟨w2.heap.size, 0, none⟩ (.int .u64 b1)).setCell ⟨w2.heap.size, 1, none⟩ (.int .u64 pn)).setCell ⟨w2.heap.size, 2, none⟩ (.int .u64 pK)).setCell ⟨w2.heap.size, 3, none⟩ (.slice A6 n6 c6) = w7 := ⟨_, rfl⟩
      have HW7 := Lib.hid hw7
      rw [hw7] at M7 S7
      have hac2 := acked_any b1 pn pK A6 n6 c6 R6 ⟨ak.toArray⟩ 0 w7 (Nat.zero_le _) ((Own.reads segC_len (M7.out.row 5 rfl)).1) S7.out (by omega) HAK.out
      rw [HR6.out, show (⟨ak.toArray⟩ : ByteArray).data.toList = ak by simp, HAQ2.out] at hac2
      have HAC2 := Lib.hid hac2
      clear hR6 oR6 sR6 h6 hac2 hw7 s0 s1 s2 s3 sf0 sf1 sf2 sf3 sl HAC M5 M6 M
      go_wp2_with fail
      rw [HW7.out]
      refine HAC2.out.mono ?_
      rintro e w8 ⟨A8, n8, c8, rfl, ⟨R8, hR8, oR8, sR8⟩, h8⟩
      dsimp only at hR8 ⊢
      have HR8 := Lib.hid hR8
      have hn8 : n8 = n6 := by
        have h1 := (Own.reads segC_len oR8).2.1
        have h2 := congrArg List.length hR8
        have h3 := congrArg List.length HR6.out
        have h4 := (Own.reads segC_len (M7.out.row 5 rfl)).2.1
        rw [gs_len] at h2 h3
        omega
      subst hn8
      have M8 := Lib.hid ((M7.out.own h8 oR8).alloc #[.int .u64 b1, .int .u64 pn, .int .u64 pK, .slice A8 n8 c8] 38)
      have hA8 := (Held.refl w8).alloc (.cells #[.int .u64 b1, .int .u64 pn, .int .u64 pK, .slice A8 n8 c8] 38)
      have S8 := Lib.hid ((S7.out.held h8).held hA8)
      have T8 := Lib.hid (sR8.held hA8)
      have HSS := Lib.hid (sameSnd_any b1 pn pK A8 A6 n8 c8 c6 R8 R6 0 _ (Own.reads segC_len (M8.out.row 6 rfl)).1 (Own.reads segC_len (M8.out.row 5 rfl)).1 T8.out S8.out (by rw [HR8.out, HR6.out]) (by omega))
      obtain ⟨⟨s0, s1, s2, s3⟩, _, sl⟩ := M8.out.box4 1 rfl
      obtain ⟨⟨x0, x1, x2, x3⟩, _, xl⟩ := M8.out.box4 7 rfl
      clear hR8 oR8 sR8 h8 hA8 HAC2 HW7 M7 S7 s0' s1' s2' s3' sf0' sf1' sf2' sf3' sl'
      go_wp2_with fail
      refine HSS.out.mono ?_
      rintro e w9 ⟨rfl, h9⟩
      have M9 := Lib.hid ((M8.out.keep h9).sel [2, 3] (by decide))
      clear h9 HSS M8 S8 T8 s0 s1 s2 s3 sl x0 x1 x2 x3 xl
      go_wp2
      go_loopw [18] (fun i wr2 => ∃ j : Nat, i = .int .i64 (j : Int) ∧ j ≤ q ∧ Mem W wr2 [.box (w2.heap.size + 1) #[.int .u64 (k1 : Int), .int .u64 (pK : Int), .slice AE 0 cE] 41, .row 9 1 stC W.heap.size (.slice AP nP cP) PS]) (fun i _ => q - (RowKit.intOf i).toNat)
      case atStart => exact ⟨0, rfl, Nat.zero_le _, M9.out⟩
      case round =>
        obtain ⟨j, rfl, hjq, hM⟩ := hrel
        have M := Lib.hid hM
        clear hM M9
        obtain ⟨⟨r0, r1, r2⟩, ⟨rf0, rf1, rf2⟩, rl⟩ := M.out.box3 0 rfl
        by_cases hlt2 : j < q
        · have z5 : (j : Int) < q := by omega
          have z6 : (0 : Int) ≤ j := by omega
          have z7 : (j : Int) < nP := by omega
          have hjn : j < nP := by omega
          have hjg : j < (gs R).length := by rw [HGL.out]; omega
          obtain ⟨K', E', _, _, _, htk, _, _, hold⟩ := take_at HCH.out (EI.nil at_ (gs R) q nP) (by omega) (by rw [HGL.out]; exact Nat.le_refl _) hkn hjn
          obtain ⟨rfl, rfl⟩ := hold hlt2
          rw [Nat.sub_self, List.take_zero] at htk
          have hr0 : rcvAt at_ (gs R) K' [] = ⟨k1, pK, ers []⟩ := by unfold rcvAt; rw [HK1.out, HPK.out]; rfl
          rw [hr0] at htk
          obtain ⟨gP, xs, rfl, hgeP, hglP, hxP, hxcP⟩ := M.out.slot 1 rfl stC_len (by decide) (k := j) (by rw [HPC.out]; exact hjn)
          rw [HPS.out j hjn] at hxP
          injection hxP with hxP
          subst hxP
          have y0 := (hxcP 0 (by decide)).2 _ rfl
          simp only [Nat.mul_one, Nat.add_zero] at y0
          have hdl := dataP_len2 (n := j + 1) (g := (gs R)[j]) (by omega) (HCH.out.inn j hjg)
          obtain ⟨dp, hdp⟩ : ∃ dp, dataP (j + 1) ((gs R)[j]) = dp := ⟨_, rfl⟩
          rw [hdp] at htk y0 hdl
          have ht := fun (w' : World) => take_any k1 pK AE 0 cE [] ⟨dp.toArray⟩ 0 w' (Nat.zero_le _) (Sl.nil _ _) (Ers.nil _ _) (by omega) (by rw [ba_size]; omega)
          rw [show (⟨dp.toArray⟩ : ByteArray).data.toList = dp by simp, htk] at ht
          have HT := Lib.hid ht
          have HZ := Lib.hid ((Held.refl wr).alloc (.cells #[.int .u64 0, .int .u64 0, .slice none 0 0] 41))
          have MZ := Lib.hid (M.out.alloc #[.int .u64 0, .int .u64 0, .slice none 0 0] 41)
          clear htk hdp hr0 ht hgeP hxcP hold
          go_wp2
          go_region_law (first
            | (go_simp; go_at_call 16; refine (HT.out wr.drew).mono ?_; rintro e w6 ⟨A4, n4, c4, DA, dn, dc, R4, D4, rfl, hR4, hD4, hM6, hE6, hD6⟩; dsimp only at hR4 hD4 ⊢; have HR4 := Lib.hid hR4; have HD4 := Lib.hid hD4; have MB := Lib.hid ((M.out.drew).two hM6); clear hR4 hD4 hM6 hE6 hD6)
            | (go_simp; go_at_call 16; refine (HT.out _).mono ?_; rintro e w6 ⟨A4, n4, c4, DA, dn, dc, R4, D4, rfl, hR4, hD4, hM6, hE6, hD6⟩; dsimp only at hR4 hD4 ⊢; have HR4 := Lib.hid hR4; have HD4 := Lib.hid hD4; have MA := Lib.hid ((MZ.out.drew).two hM6); obtain ⟨⟨v0, v1, v2⟩, ⟨vf0, vf1, vf2⟩, vl⟩ := MA.out.box3 2 rfl; clear hR4 hD4 hM6 hE6 hD6))
          all_goals
            have hl4 : R4 = [] := by have := HR4.out; unfold ers at this; exact List.map_eq_nil_iff.1 this
            have hd4 : D4 = [] := by have := HD4.out; unfold gs at this; exact List.map_eq_nil_iff.1 this
            subst hl4 hd4
            first
            | (obtain rfl : n4 = 0 := (Own.reads erC_len (MA.out.row 3 rfl)).2.1; obtain rfl : dn = 0 := (Own.reads segC_len (MA.out.row 4 rfl)).2.1; have MX := Lib.hid ((MA.out.put3 2 rfl (.int .u64 k1) (.int .u64 pK) (.slice A4 0 c4)).sel [0, 1, 2] (by decide)); clear MA v0 v1 v2 vf0 vf1 vf2 vl)
            | (obtain rfl : n4 = 0 := (Own.reads erC_len (MB.out.row 2 rfl)).2.1; obtain rfl : dn = 0 := (Own.reads segC_len (MB.out.row 3 rfl)).2.1; have MX := Lib.hid ((MB.out.alloc #[.int .u64 k1, .int .u64 pK, .slice A4 0 c4] 41).sel [0, 1, 4] (by decide)); clear MB)
            obtain ⟨⟨v0, v1, v2⟩, _, vl⟩ := MX.out.box3 2 rfl
            clear r0 r1 r2 rf0 rf1 rf2 rl
            obtain ⟨⟨r0, r1, r2⟩, _, rl⟩ := MX.out.box3 0 rfl
            have HSR := Lib.hid fun w => sameRcv0_any k1 pK A4 AE c4 cE w
            go_wp2_with fail
            refine (HSR.out _).mono ?_
            rintro e w7 ⟨rfl, h7⟩
            have MF := Lib.hid ((MX.out.keep h7).take 2)
            clear h7 v0 v1 v2 vl r0 r1 r2 rl MX
            go_wp2
            go_roundw
            case rel => exact ⟨j + 1, by go_num, by omega, MF.out⟩
            case measure => (simp [RowKit.intOf]) <;> omega
        · obtain rfl : j = q := by omega
          have z5 : ¬ (j : Int) < j := by omega
          go_wp2_with (go_at_call 8; refine (HAW.out _).mono ?_; rintro e w7 ⟨rfl, h7⟩)
          go_ret
          exact ⟨rfl, M.out.held.step h7⟩
end St
end Go.Proofs.Ythpjbffhdaaibaa
