/-
  Contracts: the law StreamReached (printed by wip/tools/mkrsp.py; chapter 24).
-/
import Derived.Test.YthpjbffhdaaibaaGreatZxRsO
import Derived.Test.YthpjbffhdaaibaaGreatZ13
import Derived.Test.YthpjbffhdaaibaaGreatZxStO2
import Derived.Test.YthpjbffhdaaibaaGreatZxFlip
import Derived.Lib.QuietBelow
set_option linter.unusedVariables false
set_option linter.unusedSimpArgs false
set_option maxRecDepth 100000
namespace Go.Proofs.YthpjbffhdaaibaaGreat
open Go.RowKit Go.BigFrame Go.Sort Go.Lib
namespace St
open Enc Uv Lg Lgc Strs
theorem dataP_len3 {n : Nat} {g : Seg} (hn : n < 18446744073709551616) (hg : SegIn g) : (dataP n g).length ≤ 100000 := by
  have h := body_len g hg
  have h1 := put_len n hn
  have h2 := put_len ((body g).1.length + 1) (by omega)
  unfold dataP packed
  simp only [List.length_append, be8_len, List.length_cons]
  omega
theorem packs_nth3 {at_ : Nat} {G : List Seg} (h : Ch at_ G) {n : Nat} (hn : n ≤ G.length) (h8 : n ≤ 8) {j : Nat} (hj : j < n) : (strs (packets (sndAt at_ G 0 n)))[j]? = some ⟨(dataP (j + 1) (G[j]'(by omega))).toArray⟩ := by
  rw [packets_at h (Nat.zero_le _) hn (by omega) (by omega)]
  unfold strs
  rw [List.getElem?_map, List.getElem?_map, List.getElem?_range (by omega)]
  simp only [Option.map_some, Nat.zero_add]
  rw [List.getD_eq_getElem?_getD, List.getElem?_eq_getElem (by omega)]; rfl
theorem packs_cnt3 {at_ : Nat} {G : List Seg} (h : Ch at_ G) {n : Nat} (hn : n ≤ G.length) (h8 : n ≤ 8) : (strs (packets (sndAt at_ G 0 n))).length = n := by
  rw [packets_at h (Nat.zero_le _) hn (by omega) (by omega)]
  unfold strs
  rw [List.length_map, List.length_map, List.length_range]; rfl
theorem Ers.put4 {B b : Nat} {w : World} {R : List ErR} (h : Ers B w R) (k : Blk B w b) (x0 x1 x2 x3 : Value) : Ers B ((((w.setCell ⟨b, 0, none⟩ x0).setCell ⟨b, 1, none⟩ x1).setCell ⟨b, 2, none⟩ x2).setCell ⟨b, 3, none⟩ x3) R := (h.put3 k _ _ _).put1 k.put.put.put 3 x3
/-- An acknowledgement of what arrived: the sender is where the receiver is. -/
theorem acked_up {at_ : Nat} {G : List Seg} (h : Ch at_ G) (hat : at_ < 18446744073709551616) {a p j : Nat} (hap : a ≤ j) (hj : j ≤ p) (hp : p ≤ G.length) (h8 : p - a ≤ 8) (hb : p ≤ 1000000) :
    ∃ b, acked (sndAt at_ G a p) (ackP (j + 1) (pos at_ G j)) = (sndAt at_ G j p, b) := by
  have := acked_at h hat (a := a) (p := p) (j := j) (by omega) hp h8 hb hj
  by_cases e : a < j
  · rw [if_pos e] at this; exact ⟨_, this⟩
  · obtain rfl : a = j := by omega
    rw [if_neg e] at this; exact ⟨_, this⟩
theorem ackP_len {n kn : Nat} (hn : n < 18446744073709551616) (hk : kn < 18446744073709551616) : (ackP n kn).length ≤ 1000 := by
  have h1 := put_len n hn
  have h2 := put_len kn hk
  have h3 := put_len (65 :: put kn).length (by rw [List.length_cons]; omega)
  unfold ackP packed
  simp only [List.length_append, be8_len, List.length_cons] at h3 ⊢
  omega
theorem u8_some (x : UInt8) (z : Int) : ∃ c : UInt8, bits .xor .u8 (x.toNat : Int) (z % 256) = (c.toNat : Int) := by
  have h1 : x.toNat < 2 ^ 8 := x.toNat_lt
  obtain ⟨m, hm, hm2⟩ : ∃ m : Nat, z % 256 = (m : Int) ∧ m < 2 ^ 8 := ⟨(z % 256).toNat, by omega, by omega⟩
  have h3 := Nat.xor_lt_two_pow h1 hm2
  refine ⟨UInt8.ofNat (x.toNat ^^^ m), ?_⟩
  rw [hm, Uv.ofNat_toNat (by omega)]
  exact u8_xor_nat _ _ (by omega) (by omega)
set_option maxHeartbeats 40000000 in
theorem reached_any (o0 : Option Addr) (len0 cap0 : Nat) (z0 : List Int) (a1 : Int) (o2 : Option Addr) (len2 cap2 : Nat) (z2 : List Int) (a3 a4 a5 : Int) (w1 : (Lit.int .u64 a1).wf = true) (w3 : (Lit.int .i64 a3).wf = true) (w4 : (Lit.int .i64 a4).wf = true) (w5 : (Lit.int .i64 a5).wf = true) (W : World) (w0 : Rw.IsRow .i64 W o0 len0 cap0 z0) (w2 : Rw.IsRow .i64 W o2 len2 cap2 z2) :
    Calls Tryz.prog 4 #[.slice o0 len0 cap0, .int .u64 a1, .slice o2 len2 cap2, .int .i64 a3, .int .i64 a4, .int .i64 a5] W fun e w' => e = .returned (.bool true) ∧ Below W.heap.size W w' := by
  have hb3 := Rw.bd_i64 w3
  have hb4 := Rw.bd_i64 w4
  have hb5 := Rw.bd_i64 w5
  clear w3 w4 w5
  have hat := Rw.bd_u64 w1
  obtain ⟨at_, rfl⟩ := Int.eq_ofNat_of_zero_le hat.1
  obtain ⟨L, hL, hmx, hLb⟩ := nums_in w0
  obtain ⟨L2, hL2, hmx2, hLb2⟩ := nums_in w2
  have HAW := Lib.hid awake_any
  by_cases t0 : (len0 : Int) < 1
  · clear hL hLb hL2 hLb2 w0 w1 w2
    go_enter Tryz.func4, Tryz.ntmps4
    go_wp2_with (go_at_call 7; refine (HAW.out _).mono ?_; rintro e w1 ⟨rfl, h1⟩)
    go_ret
    exact ⟨rfl, h1⟩
  have t0d : decide ((len0 : Int) < 1) = false := decide_eq_false t0
  by_cases t1 : (8 : Int) < len0
  · clear hL hLb hL2 hLb2 w0 w1 w2
    go_enter Tryz.func4, Tryz.ntmps4
    go_wp2_with (go_at_call 7; refine (HAW.out _).mono ?_; rintro e w1 ⟨rfl, h1⟩)
    go_ret
    exact ⟨rfl, h1⟩
  have t1d : decide ((8 : Int) < len0) = false := decide_eq_false t1
  by_cases t2 : (1099511627776 : Int) < at_
  · clear hL hLb hL2 hLb2 w0 w1 w2
    go_enter Tryz.func4, Tryz.ntmps4
    go_wp2_with (go_at_call 7; refine (HAW.out _).mono ?_; rintro e w1 ⟨rfl, h1⟩)
    go_ret
    exact ⟨rfl, h1⟩
  have t2d : decide ((1099511627776 : Int) < at_) = false := decide_eq_false t2
  by_cases t3 : (20 : Int) < len2
  · clear hL hLb hL2 hLb2 w0 w1 w2
    go_enter Tryz.func4, Tryz.ntmps4
    go_wp2_with (go_at_call 7; refine (HAW.out _).mono ?_; rintro e w1 ⟨rfl, h1⟩)
    go_ret
    exact ⟨rfl, h1⟩
  have t3d : decide ((20 : Int) < len2) = false := decide_eq_false t3
  have HSG := Lib.hid (segments2_any o0 len0 cap0 L at_ 0 W (Nat.zero_le _) hL hLb (by omega) (by omega))
  have HO := Lib.hid hL2
  have HOB := Lib.hid hLb2
  clear hL hLb hL2 hLb2 w0 w1 w2
  go_enter Tryz.func4, Tryz.ntmps4
  go_wp2_with fail
  refine HSG.out.mono ?_
  rintro e w1 ⟨A, cap, R, rfl, hRl, hch, hpbd, oR, sR, h1⟩
  have M1 := Lib.hid ((Mem.start W).own h1 oR)
  have HRL : Is R.length len0 := ⟨hRl⟩
  have hgl : (gs R).length = len0 := by rw [gs_len]; exact hRl
  have HGL : Is (gs R).length len0 := ⟨hgl⟩
  have hs2 := started_any A len0 cap R at_ 0 w1 (Nat.zero_le _) (Own.reads segC_len oR).1 sR hch (by omega) (by omega)
  unfold StTo at hs2
  rw [hgl, show min len0 8 = len0 by omega, List.take_of_length_le (by omega)] at hs2
  have HST := Lib.hid hs2
  have HCH := Lib.hid hch
  have HPB := Lib.hid hpbd
  have S1 := Lib.hid sR
  clear hRl hch hpbd oR sR h1 HSG hs2 hgl
  go_wp2_with fail
  refine HST.out.mono ?_
  rintro e w2 ⟨AQ, nQ, cQ, rfl, ⟨RQ, hRQ, oQ, sQ⟩, h2⟩
  have hQl : RQ.length = len0 := by have := congrArg List.length hRQ; rw [gs_len, HGL.out] at this; exact this
  obtain rfl : nQ = len0 := by rw [← hQl]; exact (Own.reads segC_len oQ).2.1
  have HRQ := Lib.hid hRQ
  obtain ⟨pn, hpn⟩ : ∃ pn, pos at_ (gs R) nQ = pn := ⟨_, rfl⟩
  rw [hpn]
  have M2 := Lib.hid (((M1.out.own h2 oQ).alloc #[.int .u64 1, .int .u64 (pn : Int), .int .u64 at_, .slice AQ nQ cQ] 28).alloc' (b := w2.heap.size + 1) (by simp) #[.int .u64 1, .int .u64 at_, .slice none 0 0] 31)
  have hA2 := ((Held.refl w2).alloc (.cells #[.int .u64 1, .int .u64 (pn : Int), .int .u64 at_, .slice AQ nQ cQ] 28)).alloc (.cells #[.int .u64 1, .int .u64 at_, .slice none 0 0] 31)
  have S2 := Lib.hid ((S1.out.held h2).held hA2)
  have Q2 := Lib.hid (sQ.held hA2)
  have hpk := packets_any 1 pn at_ AQ nQ cQ RQ 0 _ ((Own.reads segC_len (M2.out.row 1 rfl)).1) Q2.out (by omega)
  have hsnd : sndAt at_ (gs R) 0 nQ = ⟨1, pn, at_, gs RQ⟩ := by rw [sndAt0, hpn, HRQ.out, List.take_of_length_le (by rw [HGL.out]; exact Nat.le_refl _)]
  rw [← hsnd] at hpk
  have HPK := Lib.hid hpk
  have HPN := Lib.hid hpn
  have HSND := Lib.hid hsnd
  obtain ⟨⟨c0, c1, c2, c3⟩, _, cl⟩ := M2.out.box4 2 rfl
  clear hQl hRQ oQ sQ h2 hA2 hpk hsnd HST M1 S1 hpn
  go_wp2_with fail
  refine HPK.out.mono ?_
  rintro e w3 ⟨AP, nP, cP, rfl, oP, h3⟩
  have hPl := packs_cnt3 HCH.out (n := nQ) (by rw [HGL.out]; exact Nat.le_refl _) (by omega)
  obtain rfl : nP = nQ := by rw [← hPl]; exact (Own.reads stC_len oP).2.1
  have M3 := Lib.hid ((M2.out.own h3 oP).nilRow (e := 72) (s := 4) (f := erC))
  have S3 := Lib.hid (S2.out.held h3)
  have Q3 := Lib.hid (Q2.out.held h3)
  clear oP h3 HPK M2 S2 Q2 c0 c1 c2 c3 cl hPl
  obtain ⟨PS, hPS⟩ : ∃ PS, strs (packets (sndAt at_ (gs R) 0 nP)) = PS := ⟨_, rfl⟩
  have HPC : Is PS.length nP := ⟨by rw [← hPS]; exact packs_cnt3 HCH.out (by rw [HGL.out]; exact Nat.le_refl _) (by omega)⟩
  have HPS : Hid (∀ j (h : j < nP), PS[j]? = some ⟨(dataP (j + 1) ((gs R)[j]'(by rw [HGL.out]; exact h))).toArray⟩) := fun j h => by rw [← hPS]; exact packs_nth3 HCH.out (by rw [HGL.out]; exact Nat.le_refl _) (by omega) h
  rw [hPS] at M3
  clear hPS
  go_wp2
  go_loopw [18] (fun i wr => ∃ (q a K sb pa nQ cQ nE cE k1 pK : Nat) (AQ AE : Option Addr) (RQ : List SR) (RE : List ErR), i = .int .i64 (q : Int) ∧ q ≤ len2 ∧ a ≤ K ∧ K ≤ nP ∧ sb = a + 1 ∧ pa = pos at_ (gs R) a ∧ k1 = K + 1 ∧ pK = pos at_ (gs R) K ∧ EI at_ (gs R) K nP (ers RE) ∧ gs RQ = ((gs R).drop a).take (nP - a) ∧ Mem W wr [.row 25 3 segC W.heap.size (.slice A nP cap) R, .row 25 3 segC W.heap.size (.slice AQ nQ cQ) RQ, .box w2.heap.size #[.int .u64 (sb : Int), .int .u64 (pn : Int), .int .u64 (pa : Int), .slice AQ nQ cQ] 28, .box (w2.heap.size + 1) #[.int .u64 (k1 : Int), .int .u64 (pK : Int), .slice AE nE cE] 31, .row 9 1 stC W.heap.size (.slice AP nP cP) PS, .row 72 4 erC W.heap.size (.slice AE nE cE) RE] ∧ Sgs 0 wr R ∧ Sgs 0 wr RQ ∧ Ers 0 wr RE) (fun i _ => len2 - (RowKit.intOf i).toNat)
  case atStart => exact ⟨0, 0, 0, 1, at_, nP, cQ, 0, 0, 1, at_, AQ, none, RQ, [], rfl, Nat.zero_le _, Nat.le_refl _, Nat.zero_le _, rfl, rfl, rfl, rfl, EI.nil _ _ _ _, by rw [HRQ.out, List.drop_zero, Nat.sub_zero]; exact (List.take_of_length_le (by rw [HGL.out]; exact Nat.le_refl _)).symm, M3.out, S3.out, Q3.out, Ers.nil _ _⟩
  case round =>
    clear HRQ
    obtain ⟨q, a, K, sb, pa, nQ, cQ, nE, cE, k1, pK, AQ, AE, RQ, RE, rfl, hq, haK, hK, hsb, hpa, hk1, hpK, hEI, hgQ, hM, hSR, hSQ, hSE⟩ := hrel
    have hRE : RE.length = nE := by have := (Own.reads erC_len (hM.row 5 rfl)).2.1; omega
    have hnE : nE ≤ 1000000 := by
      have hl := asc_len Er.s (ers RE) (K + 1) nP hEI.asc fun x hx => by obtain ⟨i, hi, h1, h2, rfl⟩ := hEI.mem x hx; exact ⟨by simp only; omega, by simp only; omega⟩
      rw [ers_len, hRE] at hl
      omega
    have hnQ : nQ ≤ 1000000 := by
      have h1 := (Own.reads segC_len (hM.row 1 rfl)).2.1
      have h2 := congrArg List.length hgQ
      rw [gs_len, List.length_take] at h2
      omega
    have HKN : Hid (K ≤ nP) := hK
    have HAK : Hid (a ≤ K) := haK
    have HSB : Is sb (a + 1) := ⟨hsb⟩
    have HPA : Is pa (pos at_ (gs R) a) := ⟨hpa⟩
    have HK1 : Is k1 (K + 1) := ⟨hk1⟩
    have HPK : Is pK (pos at_ (gs R) K) := ⟨hpK⟩
    have HEI := Lib.hid hEI
    have HGQ := Lib.hid hgQ
    have M := Lib.hid hM
    have SR' := Lib.hid hSR
    have SQ := Lib.hid hSQ
    have SE := Lib.hid hSE
    have hpKb := HCH.out.lt (by omega) (i := K) (by rw [HGL.out]; exact hK)
    have hsn : sndAt at_ (gs R) a nP = ⟨sb, pn, pa, gs RQ⟩ := by unfold sndAt; rw [HPN.out, HSB.out, HPA.out, HGQ.out]
    have HSN := Lib.hid hsn
    clear hk1 hpK hEI hgQ hM hSR hSQ hSE hRE M3 S3 Q3 hK haK hsb hpa hsn
    obtain ⟨⟨r0, r1, r2⟩, ⟨rf0, rf1, rf2⟩, rl⟩ := M.out.box3 3 rfl
    by_cases hlt : q < len2
    · obtain ⟨b, off, z, rfl, hb, hz, hc⟩ := in_at HO.out M.out.held (k := q) hlt
      have hzb := HOB.out z (List.mem_of_getElem? hz)
      have z2 : (q : Int) < len2 := by omega
      have z3 : (0 : Int) ≤ q := by omega
      have HR := Lib.hid fun w => Mk.round_any z nP hzb.1 hzb.2 (by omega) (by omega) w
      have hrb := Mk.round_bd z nP (by omega)
      generalize Mk.round z nP = j at HR hrb
      obtain ⟨j, rfl⟩ := Int.eq_ofNat_of_zero_le hrb.1
      have hjn : j < nP := by omega
      have HRA := Lib.hid fun w => Mk.round_any a3 20 hb3.1 hb3.2 (by omega) (by omega) w
      generalize Mk.round a3 20 = ra at HRA
      have hjg : j < (gs R).length := by rw [HGL.out]; exact hjn
      obtain ⟨K', E', hK1, hK2, hEI', htk, hE1, hE2, _⟩ := take_at HCH.out HEI.out (by omega) (by rw [HGL.out]; exact Nat.le_refl _) HKN.out hjn
      obtain ⟨gP, xs, rfl, hgeP, hglP, hxP, hxcP⟩ := M.out.slot 4 rfl stC_len (by decide) (k := j) (by rw [HPC.out]; exact hjn)
      rw [HPS.out j hjn] at hxP
      injection hxP with hxP
      subst hxP
      have y0 := (hxcP 0 (by decide)).2 _ rfl
      simp only [Nat.mul_one, Nat.add_zero] at y0
      have hdl := dataP_len3 (n := j + 1) (g := (gs R)[j]) (by omega) (HCH.out.inn j hjg)
      obtain ⟨dp, hdp⟩ : ∃ dp, dataP (j + 1) ((gs R)[j]) = dp := ⟨_, rfl⟩
      rw [hdp] at htk y0 hdl
      obtain ⟨k2, hk2⟩ : ∃ k2, K' + 1 = k2 := ⟨_, rfl⟩
      obtain ⟨p2, hp2⟩ : ∃ p2, pos at_ (gs R) K' = p2 := ⟨_, rfl⟩
      have hr0 : rcvAt at_ (gs R) K (ers RE) = ⟨k1, pK, ers RE⟩ := by unfold rcvAt; rw [HK1.out, HPK.out]
      rw [hr0] at htk
      have hr1 : rcvAt at_ (gs R) K' E' = ⟨k2, p2, E'⟩ := by unfold rcvAt; rw [hk2, hp2]
      rw [hr1] at htk
      have ht := fun (w' : World) (k : Held wr w') => take_any k1 pK AE nE cE RE ⟨dp.toArray⟩ 0 w' (Nat.zero_le _) ((Own.reads erC_len (M.out.row 5 rfl)).1.held k) (SE.out.held k) hnE (by rw [ba_size]; omega)
      rw [show (⟨dp.toArray⟩ : ByteArray).data.toList = dp by simp, htk] at ht
      have HT := Lib.hid ht
      have HEI2 := Lib.hid hEI'
      have HK2 : Is k2 (K' + 1) := ⟨hk2.symm⟩
      have HP2 : Is p2 (pos at_ (gs R) K') := ⟨hp2.symm⟩
      have HKK : Hid (K ≤ K' ∧ K' ≤ nP) := ⟨hK1, hK2⟩
      have hjz : (0 : Int) ≤ j := by omega
      have hjn2 : (j : Int) < nP := by omega
      clear hE1 hE2 hEI' htk hdp hr0 hr1 ht hk2 hp2 hK1 hK2 hgeP hxcP hz hzb hrb hb
      go_wp2
      go_region_law (first
        | (go_simp; go_at_call 26; refine (HT.out _ (Held.refl wr).drew).mono ?_; rintro e w6 ⟨A4, n4, c4, DA, dn, dc, R4, D4, rfl, hR4, hD4, hM6, hE6, hD6⟩; dsimp only at hR4 hD4 ⊢; have HR4 := Lib.hid hR4; have K6 := Lib.hid ((Held.refl wr).drew.step hM6.held); have M6 := Lib.hid ((M.out.drew).two hM6); have E6 := Lib.hid hE6; obtain ⟨⟨v0, v1, v2⟩, ⟨vf0, vf1, vf2⟩, vl⟩ := M6.out.box3 3 rfl; clear hR4 hD4 hM6 hE6 hD6)
        | (go_simp; go_at_call 34; refine (HR.out _).mono ?_; rintro e w5 ⟨rfl, rfl⟩))
      all_goals
        have MF := Lib.hid ((M6.out.put3 3 rfl (.int .u64 (k2 : Int)) (.int .u64 (p2 : Int)) (.slice A4 n4 c4)).sel [0, 1, 2, 3, 4, 6] (by decide))
        have bk := Blk.of M6.out 3 rfl (by decide) (Nat.zero_le _)
        have SRf := Lib.hid ((SR'.out.held K6.out).put3 bk (.int .u64 (k2 : Int)) (.int .u64 (p2 : Int)) (.slice A4 n4 c4))
        have SQf := Lib.hid ((SQ.out.held K6.out).put3 bk (.int .u64 (k2 : Int)) (.int .u64 (p2 : Int)) (.slice A4 n4 c4))
        have SEf := Lib.hid (E6.out.put3 bk (.int .u64 (k2 : Int)) (.int .u64 (p2 : Int)) (.slice A4 n4 c4))
        obtain ⟨w9, hw9⟩ : ∃ w9, ((w6.setCell ⟨w2.heap.size + 1, 0, none⟩ (.int .u64 (k2 : Int))).setCell ⟨w2.heap.size + 1, 1, none⟩ (.int .u64 (p2 : Int))).setCell ⟨w2.heap.size + 1, 2, none⟩ (.slice A4 n4 c4) = w9 := ⟨_, rfl⟩
        have HW9 := Lib.hid hw9
        rw [hw9] at MF SRf SQf SEf
        clear M6 E6 K6 bk hw9 v0 v1 v2 vf0 vf1 vf2 vl r0 r1 r2 rf0 rf1 rf2 rl M SR' SQ SE HT HR y0 hc
        go_wp2_with fail
        refine (HRA.out _).mono ?_
        rintro e w7 ⟨rfl, rfl⟩
        have HE4 : Hid (EI at_ (gs R) K' nP (ers R4)) := by have := HEI2.out; rw [← HR4.out] at this; exact this
        by_cases hqa : (q : Int) = ra
        · have hqa1 : ((q : Int) == ra) = true := by rw [beq_iff_eq]; exact hqa
          have hqa2 : decide ((q : Int) = ra) = true := decide_eq_true hqa
          have hn4 : n4 ≤ 1000000 := by
            have h1 := (Own.reads erC_len (MF.out.row 5 rfl)).2.1
            have hl := asc_len Er.s (ers R4) (K' + 1) nP HE4.out.asc fun x hx => by obtain ⟨i, hi, h1, h2, rfl⟩ := HE4.out.mem x hx; exact ⟨by simp only; omega, by simp only; omega⟩
            rw [ers_len] at hl
            omega
          have hKK := HKK.out
          have hpKb' := HCH.out.lt (by omega) (i := K') (by rw [HGL.out]; exact hKK.2)
          have hrp := fun (w' : World) (k : Held w9 w') => reply_any k2 p2 A4 n4 c4 R4 0 w' ((Own.reads erC_len (MF.out.row 5 rfl)).1.held k) (SEf.out.held k) hn4 (by have := HK2.out; omega) (by have := HP2.out; omega)
          have hr0 : rcvAt at_ (gs R) K' (ers R4) = ⟨k2, p2, ers R4⟩ := by unfold rcvAt; rw [HK2.out, HP2.out]
          rw [← hr0, reply_at HCH.out HE4.out (by omega) (by omega)] at hrp
          have hal := ackP_len (n := K' + 1) (kn := pos at_ (gs R) K') (by omega) hpKb'
          have hac := fun (w' : World) (k : Held w9 w') => acked_any sb pn pa AQ nQ cQ RQ ⟨(ackP (K' + 1) (pos at_ (gs R) K')).toArray⟩ 0 w' (Nat.zero_le _) ((Own.reads segC_len (MF.out.row 1 rfl)).1.held k) (SQf.out.held k) hnQ (by rw [ba_size]; omega)
          obtain ⟨bv, haq⟩ := acked_up HCH.out (by omega) (a := a) (p := nP) (j := K') (by have := HAK.out; omega) hKK.2 (by rw [HGL.out]; exact Nat.le_refl _) (by omega) (by omega)
          obtain ⟨GQ, hGQ⟩ : ∃ GQ, ((gs R).drop K').take (nP - K') = GQ := ⟨_, rfl⟩
          have hsn2 : sndAt at_ (gs R) K' nP = ⟨k2, pn, p2, GQ⟩ := by unfold sndAt; rw [HPN.out, HK2.out, HP2.out, hGQ]
          rw [HSN.out, hsn2] at haq
          rw [show (⟨(ackP (K' + 1) (pos at_ (gs R) K')).toArray⟩ : ByteArray).data.toList = ackP (K' + 1) (pos at_ (gs R) K') by simp, haq] at hac
          generalize ackP (K' + 1) (pos at_ (gs R) K') = ak at hrp hac
          have HRP := Lib.hid hrp
          have HAC := Lib.hid hac
          have HGQ2 : Is (((gs R).drop K').take (nP - K')) GQ := ⟨hGQ⟩
          obtain ⟨⟨r0, r1, r2⟩, _, rl⟩ := MF.out.box3 3 rfl
          obtain ⟨⟨s0, s1, s2, s3⟩, ⟨sf0, sf1, sf2, sf3⟩, sl⟩ := MF.out.box4 2 rfl
          clear hrp hac hr0 hal haq hsn2 hGQ hKK hpKb'
          rw [HW9.out]
          go_wp2
          go_region_law (first
            | (go_simp; go_at_call 24; refine (HAC.out _ K8.out).mono ?_; rintro e w9' ⟨A9, n9, c9, rfl, ⟨R9, hR9, oR9, sR9⟩, h9⟩; dsimp only at hR9 ⊢; have HR9 := Lib.hid hR9; have M9 := Lib.hid ((MF.out.keep K8.out).own h9 oR9); have H9 := Lib.hid (K8.out.step h9); have S9 := Lib.hid sR9; obtain ⟨⟨u0, u1, u2, u3⟩, ⟨uf0, uf1, uf2, uf3⟩, ul⟩ := M9.out.box4 2 rfl; clear hR9 oR9 sR9 h9)
            | (go_simp; go_at_call 17; refine (HRP.out _ (Held.refl w9).drew).mono ?_; rintro e w8 ⟨rfl, h8⟩; have K8 := Lib.hid ((Held.refl w9).drew.step h8); obtain ⟨⟨v0, v1, v2⟩, _, vl⟩ := (MF.out.keep K8.out).box3 3 rfl; obtain ⟨⟨t0', t1', t2', t3'⟩, ⟨tf0, tf1, tf2, tf3⟩, tl⟩ := (MF.out.keep K8.out).box4 2 rfl; clear h8))
          all_goals
            have MG := Lib.hid ((M9.out.put4 2 rfl (.int .u64 (k2 : Int)) (.int .u64 (pn : Int)) (.int .u64 (p2 : Int)) (.slice A9 n9 c9)).sel [0, 6, 2, 3, 4, 5] (by decide))
            have bk := Blk.of M9.out 2 rfl (by decide) (Nat.zero_le _)
            have PG := Lib.hid ((SRf.out.held H9.out).put4 bk (.int .u64 (k2 : Int)) (.int .u64 (pn : Int)) (.int .u64 (p2 : Int)) (.slice A9 n9 c9))
            have QG := Lib.hid (S9.out.put4 bk (.int .u64 (k2 : Int)) (.int .u64 (pn : Int)) (.int .u64 (p2 : Int)) (.slice A9 n9 c9))
            have EG := Lib.hid ((SEf.out.held H9.out).put4 bk (.int .u64 (k2 : Int)) (.int .u64 (pn : Int)) (.int .u64 (p2 : Int)) (.slice A9 n9 c9))
            go_wp2
            go_roundw
            case rel => exact ⟨q + 1, K', K', k2, p2, n9, c9, n4, c4, k2, p2, A9, A4, R9, R4, by go_num, by omega, Nat.le_refl _, HKK.out.2, HK2.out, HP2.out, HK2.out, HP2.out, HE4.out, by rw [HR9.out, HGQ2.out], MG.out, PG.out, QG.out, EG.out⟩
            case measure => (simp [RowKit.intOf]) <;> omega
        · have hqa1 : ((q : Int) == ra) = false := by rw [beq_eq_false_iff_ne]; exact hqa
          have hqa2 : decide ((q : Int) = ra) = false := decide_eq_false hqa
          rw [HW9.out]
          go_wp2
          go_roundw
          case rel => exact ⟨q + 1, a, K', sb, pa, nQ, cQ, n4, c4, k2, p2, AQ, A4, RQ, R4, by go_num, by omega, by have := HAK.out; have := HKK.out; omega, HKK.out.2, HSB.out, HPA.out, HK2.out, HP2.out, HE4.out, HGQ.out, MF.out, SRf.out, SQf.out, SEf.out⟩
          case measure => (simp [RowKit.intOf]) <;> omega
    · obtain rfl : q = len2 := by omega
      have z2 : ¬ (q : Int) < q := by omega

      obtain ⟨wE, rfl⟩ : ∃ wE : World, wE = wr := ⟨_, rfl⟩
      have hKN := HKN.out
      have hr0 : rcvAt at_ (gs R) K (ers RE) = ⟨k1, pK, ers RE⟩ := by unfold rcvAt; rw [HK1.out, HPK.out]
      have hrp := fun (w' : World) (k : Held wE w') => reply_any k1 pK AE nE cE RE 0 w' ((Own.reads erC_len (M.out.row 5 rfl)).1.held k) (SE.out.held k) hnE (by have := HK1.out; omega) (by have := HPK.out; omega)
      have hrr := fun (w' : World) (k : Held wE w') => replyr_any k1 pK AE nE cE RE 0 w' ((Own.reads erC_len (M.out.row 5 rfl)).1.held k) (SE.out.held k) hnE (by have := HK1.out; omega) (by have := HPK.out; omega)
      rw [← hr0, reply_at HCH.out HEI.out (by omega) (by omega)] at hrp hrr
      have hal := ackP_len (n := K + 1) (kn := pos at_ (gs R) K) (by omega) hpKb
      obtain ⟨rp, hrpe⟩ : ∃ rp : ByteArray, (⟨(ackP (K + 1) (pos at_ (gs R) K)).toArray⟩ : ByteArray) = rp := ⟨_, rfl⟩
      have hrps : rp.size ≤ 100000 := by rw [← hrpe, ba_size]; omega
      unfold MakesS at hrp hrr
      rw [hrpe] at hrp hrr
      have HRP := Lib.hid hrp
      have HRR := Lib.hid hrr
      have hsd : sending ⟨sb, pn, pa, gs RQ⟩ = true := by rw [← HSN.out]; exact sending_at HCH.out (by have := HAK.out; omega) (by rw [HGL.out]; exact Nat.le_refl _) (by omega) (by have := HAK.out; omega)
      have hrv : receiving ⟨k1, pK, ers RE⟩ = true := by rw [← hr0]; exact HEI.out.receiving HCH.out (by omega) (by omega)
      have HSD := Lib.hid fun (w' : World) (k : Held wE w') => sending_any sb pn pa AQ nQ cQ RQ 0 w' ((Own.reads segC_len (M.out.row 1 rfl)).1.held k) (SQ.out.held k) hnQ
      have HRV := Lib.hid fun (w' : World) (k : Held wE w') => receiving_any k1 pK AE nE cE RE 0 w' ((Own.reads erC_len (M.out.row 5 rfl)).1.held k) (SE.out.held k) hnE
      rw [hsd] at HSD
      rw [hrv] at HRV
      unfold BoolTo at HSD HRV
      have hpnb : pn ≤ at_ + 6 * nP := by rw [← HPN.out]; exact HPB.out
      have HSG2 := Lib.hid fun w => segment_any a5 pn hb5.1 hb5.2 (by omega) w
      have HR4 := Lib.hid fun w => Mk.round_any a4 nP hb4.1 hb4.2 (by omega) (by omega) w
      have hrb4 := Mk.round_bd a4 nP (by omega)
      generalize Mk.round a4 nP = j4 at HR4 hrb4
      obtain ⟨j4, rfl⟩ := Int.eq_ofNat_of_zero_le hrb4.1
      have hj4 : j4 < nP := by omega
      have hj4z : (0 : Int) ≤ j4 := by omega
      have hj4n : (j4 : Int) < nP := by omega
      have KE := Lib.hid (Held.refl wE)
      clear hrp hrr hr0 hal hrpe hsd hrv hpnb hrb4 HSN r0 r1 r2 rf0 rf1 rf2 rl
      obtain ⟨⟨r0, r1, r2⟩, _, rl⟩ := M.out.box3 3 rfl
      go_wp2_with fail
      refine (HRP.out _ (Held.refl wE)).mono ?_
      rintro e w8 ⟨rfl, h8⟩
      have K8 := Lib.hid h8
      clear h8 r0 r1 r2 rl KE
      obtain ⟨gP, xs, rfl, hgeP, hglP, hxP, hxcP⟩ := (M.out.keep K8.out).slot 4 rfl stC_len (by decide) (k := j4) (by rw [HPC.out]; exact hj4)
      rw [HPS.out j4 hj4] at hxP
      injection hxP with hxP
      subst hxP
      have y0 := (hxcP 0 (by decide)).2 _ rfl
      simp only [Nat.mul_one, Nat.add_zero] at y0
      have hdl := dataP_len3 (n := j4 + 1) (g := (gs R)[j4]'(by rw [HGL.out]; exact hj4)) (by omega) (HCH.out.inn j4 (by rw [HGL.out]; exact hj4))
      obtain ⟨dp, hdp⟩ : ∃ dp : ByteArray, (⟨(dataP (j4 + 1) ((gs R)[j4]'(by rw [HGL.out]; exact hj4))).toArray⟩ : ByteArray) = dp := ⟨_, rfl⟩
      rw [hdp] at y0
      have hdps : dp.size ≤ 100000 := by rw [← hdp, ba_size]; exact hdl
      clear hxcP hdl hdp hgeP
      go_upto_if 112 with fail
      go_cut [19] (fun v19 wx => ∃ y : ByteArray, v19 = .string y ∧ y.size ≤ 100000 ∧ Held w8 wx)
      case first =>
        go_wp2_with fail
        all_goals
          first
          | (go_meet; case rel => exact ⟨rp, rfl, hrps, Held.refl _⟩)
          | (refine (HR4.out _).mono ?_
             rintro e w9 ⟨rfl, rfl⟩
             go_wp2
             go_meet
             case rel => exact ⟨dp, rfl, hdps, Held.refl _⟩)
      case rest =>
        as_aux_lemma =>
          obtain ⟨y, rfl, hys, h9⟩ := hcut
          have K9 := Lib.hid (K8.out.step h9)
          obtain ⟨w9, rfl⟩ : ∃ w9 : World, w9 = wc := ⟨_, rfl⟩
          clear y0 K8 h9 HR4 hj4z hj4n hj4 hglP hdps
          go_upto_region 17 with fail
          go_cut [127] (fun v wx => ∃ bb : Bool, v = .bool bb ∧ (bb = true → 0 < y.size) ∧ wx = w9)
          case first =>
            by_cases hy0 : 0 < y.size
            · have hy1 : (0 : Int) < y.size := by omega
              by_cases hc2 : a5.tmod 2 = 0
              · go_wp2
                go_meet
                case rel => exact ⟨_, rfl, fun _ => hy0, rfl⟩
              · go_wp2
                go_meet
                case rel => exact ⟨_, rfl, fun _ => hy0, rfl⟩
            · have hy1 : ¬ (0 : Int) < y.size := by omega
              have hy2 : decide ((0 : Int) < y.size) = false := decide_eq_false hy1
              by_cases hc2 : a5.tmod 2 = 0
              · go_wp2
                go_meet
                case rel => exact ⟨_, rfl, fun h => by simp_all, rfl⟩
              · go_wp2
                go_meet
                case rel => exact ⟨_, rfl, fun h => by simp_all, rfl⟩
          case rest =>
            obtain ⟨bb, rfl, hbb, rfl⟩ := hcut
            go_upto_if 127 with fail
            go_cut [19, 20] (fun v19 v20 wx => ∃ z : ByteArray, v19 = .string z ∧ z.size ≤ 100000 ∧ Held wc wx)
            case first =>
              cases bb
              · go_wp2
                go_meet
                case rel => exact ⟨y, rfl, hys, Held.refl _⟩
              · have hy0 := hbb rfl
                have htd : -9223372036854775808 ≤ a5.tdiv 512 ∧ a5.tdiv 512 ≤ 9223372036854775807 := by
                  by_cases h : 0 ≤ a5
                  · rw [Int.tdiv_eq_ediv_of_nonneg h]; omega
                  · obtain ⟨x, rfl⟩ : ∃ x, a5 = -x := ⟨-a5, by omega⟩
                    rw [Int.neg_tdiv, Int.tdiv_eq_ediv_of_nonneg (by omega)]; omega
                have HR5 := Lib.hid fun w => Mk.round_any (a5.tdiv 512) y.size htd.1 htd.2 (by omega) (by omega) w
                have hrb5 := Mk.round_bd (a5.tdiv 512) y.size (by omega)
                generalize Mk.round (a5.tdiv 512) y.size = j5 at HR5 hrb5
                obtain ⟨j5, rfl⟩ := Int.eq_ofNat_of_zero_le hrb5.1
                have hj5 : j5 < y.size := by omega
                have hj5z : (0 : Int) ≤ j5 := by omega
                have hj5n : (j5 : Int) < y.size := by omega
                obtain ⟨c, hc⟩ := u8_some y[j5] (a5.tdiv 2)
                obtain ⟨C, cpc, hconv, hfz, hcl, hback⟩ := Flip.facts y wc j5 hj5 c
                have hbk : (convert 63 9 (.slice (some ⟨wc.heap.size, 0, none⟩) y.size cpc)).run Tryz.prog ((wc.alloc (.cells C 5 (C.size, C.size + 1))).setCell ⟨wc.heap.size, j5, none⟩ (.int .u8 c.toNat)).drew =
                  .ok (.string ⟨(y.data.toList.set j5 c).toArray⟩) ((wc.alloc (.cells C 5 (C.size, C.size + 1))).setCell ⟨wc.heap.size, j5, none⟩ (.int .u8 c.toNat)).drew := hback 1
                have hzs : (⟨(y.data.toList.set j5 c).toArray⟩ : ByteArray).size ≤ 100000 := by rw [ba_size, List.length_set]; simpa using hys
                have hKz : Held wc (((wc.alloc (.cells C 5 (C.size, C.size + 1))).setCell ⟨wc.heap.size, j5, none⟩ (.int .u8 c.toNat)).drew) := (((Held.refl wc).alloc _).set (Nat.le_refl _) _).drew
                have HKz := Lib.hid hKz
                clear htd hrb5 hback hKz
                go_wp2_with fail
                refine (HR5.out _).mono ?_
                rintro e w9 ⟨rfl, rfl⟩
                go_wp2
                go_meet
                case rel => exact ⟨_, rfl, hzs, HKz.out⟩
            case rest =>
              as_aux_lemma =>
                obtain ⟨z, rfl, hzs, h10⟩ := hcut
                have K10 := Lib.hid (K9.out.step h10)
                have M10 := Lib.hid (M.out.keep K10.out)
                clear h10 K9 M hbb hys
                obtain ⟨w10, rfl⟩ : ∃ w10 : World, w10 = wc := ⟨_, rfl⟩
                obtain ⟨⟨a0, a1, a2', a3'⟩, _, al⟩ := M10.out.box4 2 rfl
                go_wp2_with fail
                refine (HSG2.out _).mono ?_
                rintro e w11 ⟨kn, es, A3, n3, cap3, rfl, hok, hin, hkl, hsg, h11⟩
                clear hok hin hkl a0 a1 a2' a3' al HSG2
                have G11 := Lib.hid ((hsg 0).held ((Held.refl w11).alloc (.cells #[.int .u64 pn, .int .u64 kn, .slice A3 n3 cap3] 25)))
                have M11 := Lib.hid ((M10.out.keep h11).alloc' (b := w11.heap.size) rfl #[.int .u64 pn, .int .u64 kn, .slice A3 n3 cap3] 25)
                simp only [List.cons_append, List.nil_append] at M11
                have K11 := Lib.hid ((K10.out.step h11).alloc (.cells #[.int .u64 pn, .int .u64 kn, .slice A3 n3 cap3] 25))
                clear hsg h11 M10 K10
                have rQ := Lib.hid (Own.reads segC_len (M11.out.row 1 rfl)).1
                have rE := Lib.hid (Own.reads erC_len (M11.out.row 5 rfl)).1
                obtain ⟨_, _, e1, hq1, hq2⟩ := (M11.out.row 1 rfl).shape
                injection e1 with e1 e2 e3
                have hQc : nQ ≤ cQ := by rw [e3]; have h := (Own.reads segC_len (M11.out.row 1 rfl)).2.1; omega
                clear e1 e2 e3 hq1 hq2
                obtain ⟨_, _, e1, hq1, hq2⟩ := (M11.out.row 5 rfl).shape
                injection e1 with e1 e2 e3
                have hEc : nE ≤ cE := by rw [e3]; have h := (Own.reads erC_len (M11.out.row 5 rfl)).2.1; omega
                have hEm : cE ≤ maxLen := by rw [e3]; exact hq2
                clear e1 e2 e3 hq1 hq2
                have SQB := Lib.hid (SQ.out.held K11.out)
                have SEB := Lib.hid (SE.out.held K11.out)
                have UD := Lib.hid fun (w' : World) (k : Held (w11.alloc (.cells #[.int .u64 pn, .int .u64 kn, .slice A3 n3 cap3] 25)) w') => push_any sb pn pa AQ nQ cQ RQ pn kn A3 n3 cap3 es 0 w' (Nat.zero_le _) (rQ.out.held k) (SQB.out.held k) hnQ (G11.out.held k)
                have UR := Lib.hid fun (w' : World) (k : Held (w11.alloc (.cells #[.int .u64 pn, .int .u64 kn, .slice A3 n3 cap3] 25)) w') => pushr_any sb pn pa AQ nQ cQ RQ pn kn A3 n3 cap3 es 0 w' (rQ.out.held k) (SQB.out.held k) hnQ (G11.out.held k)
                have CD := Lib.hid fun (w' : World) (k : Held (w11.alloc (.cells #[.int .u64 pn, .int .u64 kn, .slice A3 n3 cap3] 25)) w') => acked_any sb pn pa AQ nQ cQ RQ z 0 w' (Nat.zero_le _) (rQ.out.held k) (SQB.out.held k) hnQ (by omega)
                have CR := Lib.hid fun (w' : World) (k : Held (w11.alloc (.cells #[.int .u64 pn, .int .u64 kn, .slice A3 n3 cap3] 25)) w') => ackedr_any sb pn pa AQ nQ cQ RQ z 0 w' (rQ.out.held k) (SQB.out.held k) hnQ hQc (by omega)
                have TD := Lib.hid fun (w' : World) (k : Held (w11.alloc (.cells #[.int .u64 pn, .int .u64 kn, .slice A3 n3 cap3] 25)) w') => take_any k1 pK AE nE cE RE z 0 w' (Nat.zero_le _) (rE.out.held k) (SEB.out.held k) hnE (by omega)
                have TR := Lib.hid fun (w' : World) (k : Held (w11.alloc (.cells #[.int .u64 pn, .int .u64 kn, .slice A3 n3 cap3] 25)) w') => taker_any k1 pK AE nE cE RE z 0 w' (Nat.zero_le _) (rE.out.held k) (SEB.out.held k) hnE hEc hEm (by omega)
                unfold SndX at UD CD
                unfold SndR at UR CR
                unfold TakeTo at TD
                unfold RcvR at TR
                have hgl9 := push_len ⟨sb, pn, pa, gs RQ⟩ ⟨pn, kn, es⟩
                have hal9 := acked_len ⟨sb, pn, pa, gs RQ⟩ z.data.toList
                have htl9 := take_len ⟨k1, pK, ers RE⟩ z.data.toList
                have hgl : (gs RQ).length ≤ 1000 := by have := congrArg List.length HGQ.out; rw [List.length_take] at this; omega
                have hel : (ers RE).length ≤ 1000 := by
                  have hl := asc_len Er.s (ers RE) (K + 1) nP HEI.out.asc fun x hx => by obtain ⟨i, hi, h1, h2, rfl⟩ := HEI.out.mem x hx; exact ⟨by simp only; omega, by simp only; omega⟩
                  omega
                obtain ⟨⟨⟨ub, ut, uk, uq⟩, ue⟩, hu⟩ : ∃ u, push ⟨sb, pn, pa, gs RQ⟩ ⟨pn, kn, es⟩ = u := ⟨_, rfl⟩
                obtain ⟨⟨⟨kb, kt, kk, kq⟩, ke⟩, hk⟩ : ∃ u, acked ⟨sb, pn, pa, gs RQ⟩ z.data.toList = u := ⟨_, rfl⟩
                obtain ⟨⟨⟨tb, tk, te⟩, tl, tok⟩, ht⟩ : ∃ u, take ⟨k1, pK, ers RE⟩ z.data.toList = u := ⟨_, rfl⟩
                rw [hu] at UD UR hgl9
                rw [hk] at CD CR hal9
                rw [ht] at TD TR htl9
                dsimp only at UD UR CD CR TD TR hgl9 hal9 htl9
                have hu1 : uq.length ≤ 2000 := by omega
                have hk1 : kq.length ≤ 2000 := by omega
                have ht1 : te.length ≤ 2000 := by omega
                have ht2 : tl.length ≤ 2000 := by omega
                have HU1 := Lib.hid hu1
                have HK1' := Lib.hid hk1
                have HT1 := Lib.hid ht1
                have HT2 := Lib.hid ht2
                have KB := Lib.hid (Held.refl (w11.alloc (.cells #[.int .u64 pn, .int .u64 kn, .slice A3 n3 cap3] 25)))
                clear hu hk ht hgl9 hal9 htl9 hgl hel hu1 hk1 ht1 ht2 rQ rE SQB SEB G11 SQ SE SR' HPS HPC HEI HGQ HPB
                obtain ⟨⟨a0, a1, a2, a3⟩, _, al⟩ := M11.out.box4 2 rfl
                obtain ⟨⟨d0, d1, d2⟩, _, dl⟩ := M11.out.box3 6 rfl
                go_wp2_with fail
                refine (UD.out _ KB.out).mono ?_
                rintro e w12 ⟨A12, n12, c12, rfl, o12, h12⟩
                dsimp only at o12 ⊢
                obtain ⟨R12, q12, p12, s12⟩ := o12
                have X12 := Lib.hid (And.intro (p12.reads segC_len).1 s12)
                have Q12 := Lib.hid q12
                clear p12 s12 q12
                have M12 := Lib.hid ((M11.out.keep h12).alloc' (b := w12.heap.size) rfl #[.int .u64 ub, .int .u64 ut, .int .u64 uk, .slice A12 n12 c12] 28)
                simp only [List.cons_append, List.nil_append] at M12
                have KB' := Lib.hid (KB.out.step (h12.alloc (.cells #[.int .u64 ub, .int .u64 ut, .int .u64 uk, .slice A12 n12 c12] 28)))
                clear M11 KB
                clear UD
                clear a0 a1 a2 a3 al
                clear d0 d1 d2 dl
                obtain ⟨⟨a0, a1, a2, a3⟩, _, al⟩ := M12.out.box4 2 rfl
                obtain ⟨⟨d0, d1, d2⟩, _, dl⟩ := M12.out.box3 6 rfl
                have X12a := Lib.hid (And.intro (X12.out.1.held ((Held.refl w12).alloc (.cells #[.int .u64 ub, .int .u64 ut, .int .u64 uk, .slice A12 n12 c12] 28))) (X12.out.2.held ((Held.refl w12).alloc (.cells #[.int .u64 ub, .int .u64 ut, .int .u64 uk, .slice A12 n12 c12] 28))))
                clear X12 h12
                go_wp2_with fail
                refine (UR.out _ KB'.out).mono ?_
                rintro e w13 ⟨A13, n13, c13, R13, rfl, q13, p13, s13, h13⟩
                dsimp only at q13 p13 s13 ⊢
                have E1 : Hid (SndEq 0 (w13.alloc (.cells #[.int .u64 ub, .int .u64 ut, .int .u64 uk, .slice A13 n13 c13] 28)) A12 n12 A13 n13) := Lib.hid (SndEq.held ⟨R12, R13, X12a.out.1.held h13, p13, X12a.out.2.held h13, s13, Q12.out.trans q13.symm⟩ ((Held.refl w13).alloc _))
                have hq12 : n12 ≤ 1000000 := by have e1 := X12a.out.1.1; have e2 := congrArg List.length Q12.out; rw [gs_len] at e2; have e3 := HU1.out; omega
                clear X12a Q12 p13 s13 q13
                have M13 := Lib.hid ((M12.out.keep h13).alloc' (b := w13.heap.size) rfl #[.int .u64 ub, .int .u64 ut, .int .u64 uk, .slice A13 n13 c13] 28)
                simp only [List.cons_append, List.nil_append] at M13
                have KB'' := Lib.hid (KB'.out.step (h13.alloc (.cells #[.int .u64 ub, .int .u64 ut, .int .u64 uk, .slice A13 n13 c13] 28)))
                clear M12 KB'
                clear h13 UR
                clear a0 a1 a2 a3 al
                clear d0 d1 d2 dl
                obtain ⟨⟨d0, d1, d2⟩, _, dl⟩ := M13.out.box3 3 rfl
                obtain rfl := E1.out.len
                go_wp2_with fail
                refine (TD.out _ KB''.out).mono ?_
                rintro e w16 ⟨A16, n16, c16, D16, m16, e16, RE16, RD16, rfl, q16, y16, m16', i16, j16⟩
                dsimp only at q16 y16 ⊢
                have h16 := m16'.held
                have X16 := Lib.hid (And.intro ((m16'.row 0 rfl).reads erC_len).1 i16)
                have Z16 := Lib.hid (And.intro ((m16'.row 1 rfl).reads segC_len).1 j16)
                have Q16 := Lib.hid q16
                have Y16 := Lib.hid y16
                clear m16' i16 j16 q16 y16
                have M14 := Lib.hid ((M13.out.keep h16).alloc' (b := w16.heap.size) rfl #[.int .u64 tb, .int .u64 tk, .slice A16 n16 c16] 31)
                simp only [List.cons_append, List.nil_append] at M14
                have KB''' := Lib.hid (KB''.out.step (h16.alloc (.cells #[.int .u64 tb, .int .u64 tk, .slice A16 n16 c16] 31)))
                have E1' := Lib.hid (E1.out.held (h16.alloc (.cells #[.int .u64 tb, .int .u64 tk, .slice A16 n16 c16] 31)))
                clear M13 KB'' E1
                clear TD
                clear d0 d1 d2 dl
                obtain ⟨⟨d0, d1, d2⟩, _, dl⟩ := M14.out.box3 3 rfl
                have X16a := Lib.hid (And.intro (X16.out.1.held ((Held.refl w16).alloc (.cells #[.int .u64 tb, .int .u64 tk, .slice A16 n16 c16] 31))) (X16.out.2.held ((Held.refl w16).alloc (.cells #[.int .u64 tb, .int .u64 tk, .slice A16 n16 c16] 31))))
                have Z16a := Lib.hid (And.intro (Z16.out.1.held ((Held.refl w16).alloc (.cells #[.int .u64 tb, .int .u64 tk, .slice A16 n16 c16] 31))) (Z16.out.2.held ((Held.refl w16).alloc (.cells #[.int .u64 tb, .int .u64 tk, .slice A16 n16 c16] 31))))
                clear X16 Z16 h16
                go_wp2_with fail
                refine (TR.out _ KB'''.out).mono ?_
                rintro e w17 ⟨A17, n17, c17, D17, m17, e17, RE17, RD17, rfl, q17, y17, p17, s17, _, _, t17, u17, h17⟩
                dsimp only at q17 y17 p17 s17 t17 u17 ⊢
                have E3 : Hid (RcvEq 0 (w17.alloc (.cells #[.int .u64 tb, .int .u64 tk, .slice A17 n17 c17] 31)) A16 n16 A17 n17) := Lib.hid (RcvEq.held ⟨RE16, RE17, X16a.out.1.held h17, p17, X16a.out.2.held h17, s17, Q16.out.trans q17.symm⟩ ((Held.refl w17).alloc _))
                have E4 : Hid (SndEq 0 (w17.alloc (.cells #[.int .u64 tb, .int .u64 tk, .slice A17 n17 c17] 31)) D16 m16 D17 m17) := Lib.hid (SndEq.held ⟨RD16, RD17, Z16a.out.1.held h17, t17, Z16a.out.2.held h17, u17, Y16.out.trans y17.symm⟩ ((Held.refl w17).alloc _))
                have hq16 : n16 ≤ 1000000 := by have e1 := X16a.out.1.1; have e2 := congrArg List.length Q16.out; rw [ers_len] at e2; have e3 := HT1.out; omega
                have hy16 : m16 ≤ 1000000 := by have e1 := Z16a.out.1.1; have e2 := congrArg List.length Y16.out; rw [gs_len] at e2; have e3 := HT2.out; omega
                clear X16a Z16a Q16 Y16 p17 s17 q17 t17 u17 y17
                have M15 := Lib.hid ((M14.out.keep h17).alloc' (b := w17.heap.size) rfl #[.int .u64 tb, .int .u64 tk, .slice A17 n17 c17] 31)
                simp only [List.cons_append, List.nil_append] at M15
                have KB'''' := Lib.hid (KB'''.out.step (h17.alloc (.cells #[.int .u64 tb, .int .u64 tk, .slice A17 n17 c17] 31)))
                have E1'' := Lib.hid (E1'.out.held (h17.alloc (.cells #[.int .u64 tb, .int .u64 tk, .slice A17 n17 c17] 31)))
                clear M14 KB''' E1'
                clear h17 TR
                clear d0 d1 d2 dl
                obtain ⟨⟨a0, a1, a2, a3⟩, _, al⟩ := M15.out.box4 2 rfl
                obtain rfl := E3.out.len
                obtain rfl := E4.out.len
                go_wp2_with fail
                refine (CD.out _ KB''''.out).mono ?_
                rintro e w14 ⟨A14, n14, c14, rfl, o14, h14⟩
                dsimp only at o14 ⊢
                obtain ⟨R14, q14, p14, s14⟩ := o14
                have X14 := Lib.hid (And.intro (p14.reads segC_len).1 s14)
                have Q14 := Lib.hid q14
                clear p14 s14 q14
                have M16 := Lib.hid ((M15.out.keep h14).alloc' (b := w14.heap.size) rfl #[.int .u64 kb, .int .u64 kt, .int .u64 kk, .slice A14 n14 c14] 28)
                simp only [List.cons_append, List.nil_append] at M16
                have KB''''' := Lib.hid (KB''''.out.step (h14.alloc (.cells #[.int .u64 kb, .int .u64 kt, .int .u64 kk, .slice A14 n14 c14] 28)))
                have E1''' := Lib.hid (E1''.out.held (h14.alloc (.cells #[.int .u64 kb, .int .u64 kt, .int .u64 kk, .slice A14 n14 c14] 28)))
                have E3' := Lib.hid (E3.out.held (h14.alloc (.cells #[.int .u64 kb, .int .u64 kt, .int .u64 kk, .slice A14 n14 c14] 28)))
                have E4' := Lib.hid (E4.out.held (h14.alloc (.cells #[.int .u64 kb, .int .u64 kt, .int .u64 kk, .slice A14 n14 c14] 28)))
                clear M15 KB'''' E1'' E3 E4
                clear CD
                clear a0 a1 a2 a3 al
                obtain ⟨⟨a0, a1, a2, a3⟩, _, al⟩ := M16.out.box4 2 rfl
                have X14a := Lib.hid (And.intro (X14.out.1.held ((Held.refl w14).alloc (.cells #[.int .u64 kb, .int .u64 kt, .int .u64 kk, .slice A14 n14 c14] 28))) (X14.out.2.held ((Held.refl w14).alloc (.cells #[.int .u64 kb, .int .u64 kt, .int .u64 kk, .slice A14 n14 c14] 28))))
                clear X14 h14
                go_wp2_with fail
                refine (CR.out _ KB'''''.out).mono ?_
                rintro e w15 ⟨A15, n15, c15, R15, rfl, q15, p15, s15, h15⟩
                dsimp only at q15 p15 s15 ⊢
                have E2 : Hid (SndEq 0 (w15.alloc (.cells #[.int .u64 kb, .int .u64 kt, .int .u64 kk, .slice A15 n15 c15] 28)) A14 n14 A15 n15) := Lib.hid (SndEq.held ⟨R14, R15, X14a.out.1.held h15, p15, X14a.out.2.held h15, s15, Q14.out.trans q15.symm⟩ ((Held.refl w15).alloc _))
                have hq14 : n14 ≤ 1000000 := by have e1 := X14a.out.1.1; have e2 := congrArg List.length Q14.out; rw [gs_len] at e2; have e3 := HK1'.out; omega
                clear X14a Q14 p15 s15 q15
                have M17 := Lib.hid ((M16.out.keep h15).alloc' (b := w15.heap.size) rfl #[.int .u64 kb, .int .u64 kt, .int .u64 kk, .slice A15 n15 c15] 28)
                simp only [List.cons_append, List.nil_append] at M17
                have KB'''''' := Lib.hid (KB'''''.out.step (h15.alloc (.cells #[.int .u64 kb, .int .u64 kt, .int .u64 kk, .slice A15 n15 c15] 28)))
                have E1'''' := Lib.hid (E1'''.out.held (h15.alloc (.cells #[.int .u64 kb, .int .u64 kt, .int .u64 kk, .slice A15 n15 c15] 28)))
                have E3'' := Lib.hid (E3'.out.held (h15.alloc (.cells #[.int .u64 kb, .int .u64 kt, .int .u64 kk, .slice A15 n15 c15] 28)))
                have E4'' := Lib.hid (E4'.out.held (h15.alloc (.cells #[.int .u64 kb, .int .u64 kt, .int .u64 kk, .slice A15 n15 c15] 28)))
                clear M16 KB''''' E1''' E3' E4'
                clear h15 CR
                clear a0 a1 a2 a3 al
                obtain rfl := E2.out.len
                obtain ⟨wF, hwF⟩ : ∃ wF, w15.alloc (.cells #[.int .u64 kb, .int .u64 kt, .int .u64 kk, .slice A15 n14 c15] 28) = wF := ⟨_, rfl⟩
                have HWF := Lib.hid hwF
                rw [hwF] at M17 KB'''''' E1'''' E3'' E4'' E2
                clear hwF
                have KF := Lib.hid (K11.out.step KB''''''.out)
                obtain ⟨⟨xa0, xa1, xa2, xa3⟩, _, xal⟩ := M17.out.box4 7 rfl
                have kxa0 := cell_regrown xa0
                have kxa1 := cell_regrown xa1
                have kxa2 := cell_regrown xa2
                have kxa3 := cell_regrown xa3
                clear xa0 xa1 xa2 xa3 xal
                obtain ⟨⟨xb0, xb1, xb2, xb3⟩, _, xbl⟩ := M17.out.box4 8 rfl
                have kxb0 := cell_regrown xb0
                have kxb1 := cell_regrown xb1
                have kxb2 := cell_regrown xb2
                have kxb3 := cell_regrown xb3
                clear xb0 xb1 xb2 xb3 xbl
                obtain ⟨⟨xc0, xc1, xc2⟩, _, xcl⟩ := M17.out.box3 9 rfl
                have kxc0 := cell_regrown xc0
                have kxc1 := cell_regrown xc1
                have kxc2 := cell_regrown xc2
                clear xc0 xc1 xc2 xcl
                obtain ⟨⟨xd0, xd1, xd2⟩, _, xdl⟩ := M17.out.box3 10 rfl
                have kxd0 := cell_regrown xd0
                have kxd1 := cell_regrown xd1
                have kxd2 := cell_regrown xd2
                clear xd0 xd1 xd2 xdl
                obtain ⟨⟨xe0, xe1, xe2, xe3⟩, _, xel⟩ := M17.out.box4 11 rfl
                have kxe0 := cell_regrown xe0
                have kxe1 := cell_regrown xe1
                have kxe2 := cell_regrown xe2
                have kxe3 := cell_regrown xe3
                clear xe0 xe1 xe2 xe3 xel
                obtain ⟨⟨xf0, xf1, xf2, xf3⟩, _, xfl⟩ := M17.out.box4 12 rfl
                have kxf0 := cell_regrown xf0
                have kxf1 := cell_regrown xf1
                have kxf2 := cell_regrown xf2
                have kxf3 := cell_regrown xf3
                clear xf0 xf1 xf2 xf3 xfl
                obtain ⟨⟨xg0, xg1, xg2, xg3⟩, _, xgl⟩ := M17.out.box4 2 rfl
                have kxg0 := cell_regrown xg0
                have kxg1 := cell_regrown xg1
                have kxg2 := cell_regrown xg2
                have kxg3 := cell_regrown xg3
                clear xg0 xg1 xg2 xg3 xgl
                obtain ⟨⟨xh0, xh1, xh2⟩, _, xhl⟩ := M17.out.box3 3 rfl
                have kxh0 := cell_regrown xh0
                have kxh1 := cell_regrown xh1
                have kxh2 := cell_regrown xh2
                clear xh0 xh1 xh2 xhl
                have q1 := Lib.hid fun d os => Calls.regrown_of (d := d) (os := os) ((E1''''.out.held (below_regrown wF d os)).call ub ut uk c12 c13 hq12)
                have q2 := Lib.hid fun d os => Calls.regrown_of (d := d) (os := os) ((E2.out.held (below_regrown wF d os)).call kb kt kk c14 c15 hq14)
                have q3 := Lib.hid fun d os => Calls.regrown_of (d := d) (os := os) ((E3''.out.held (below_regrown wF d os)).call tb tk c16 c17 hq16)
                have q4 := Lib.hid fun d os => Calls.regrown_of (d := d) (os := os) ((E4''.out.held (below_regrown wF d os)).calls e16 e17 hy16)
                have q5 := Lib.hid fun d os => Calls.regrown_of (d := d) (os := os) (HSD.out (grow (redrawn wF d) os) (KF.out.step (below_regrown wF d os)))
                have q6 := Lib.hid fun d os => Calls.regrown_of (d := d) (os := os) (HRV.out (grow (redrawn wF d) os) (KF.out.step (below_regrown wF d os)))
                have q7 := Lib.hid fun d os => Calls.regrown_of (d := d) (os := os) (HRP.out (grow (redrawn wF d) os) (KF.out.step (below_regrown wF d os)))
                have q8 := Lib.hid fun d os => Calls.regrown_of (d := d) (os := os) (HRR.out (grow (redrawn wF d) os) (KF.out.step (below_regrown wF d os)))
                have q9 := Lib.hid fun d os => Calls.regrown_of (d := d) (os := os) (HAW.out (grow (redrawn wF d) os))
                have MF := Lib.hid M17.out.held
                clear M17 KB'''''' E1'''' E3'' E4'' E2 KF K11 HSD HRV HRP HRR HAW
                go_wp2
                rw [HWF.out]
                refine wp_region_quiet_below (by kernel_rfl) (by kernel_rfl) ?_
                repeat (go_big_quiet_step (first | (go_at_call 30; first | (with_reducible exact q1.out _ _) | (with_reducible exact q2.out _ _)) | (go_at_call 31; with_reducible exact q3.out _ _) | (go_at_call 12; with_reducible exact q4.out _ _) | (go_at_call 13; with_reducible exact q5.out _ _) | (go_at_call 15; with_reducible exact q6.out _ _) | (go_at_call 17; with_reducible exact q7.out _ _) | (go_at_call 18; with_reducible exact q8.out _ _) | (go_at_call 7; with_reducible exact q9.out _ _)))
                refine wpQuiet_nil ?_
                intro w25 hw'
                obtain ⟨⟨dq, osq⟩, hw''⟩ := hw'
                have h25 : Held wF w25 := by rw [hw'']; exact below_regrown _ dq osq
                clear hw'' q1 q2 q3 q4 q5 q6 q7 q8 q9
                clear kxa0 kxa1 kxa2 kxa3 kxb0 kxb1 kxb2 kxb3 kxc0 kxc1 kxc2 kxd0 kxd1 kxd2 kxe0 kxe1 kxe2 kxe3 kxf0 kxf1 kxf2 kxf3 kxg0 kxg1 kxg2 kxg3 kxh0 kxh1 kxh2
                go_wp2
                go_ret
                exact ⟨rfl, MF.out.step h25⟩
end St
end Go.Proofs.YthpjbffhdaaibaaGreat
