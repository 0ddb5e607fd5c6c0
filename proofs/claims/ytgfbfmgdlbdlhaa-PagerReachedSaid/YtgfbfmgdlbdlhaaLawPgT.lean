/-
  Contracts: tells of the law package of chapter 36: all functions agree with the reference.
-/
import Derived.Test.YtgfbfmgdlbdlhaaRfR
import Derived.Test.YtgfbfmgdlbdlhaaLawPgM
set_option linter.unusedVariables false
set_option linter.unusedSimpArgs false
set_option maxRecDepth 100000
namespace Go.Proofs.Ytgfbfmgdlbdlhaa
open Go.RowKit Go.BigFrame Go.Sort
namespace Pg
theorem write_to (A : Option Addr) (n cap : Nat) (lim hand pg : Int) (L : List Pg) (d : ByteArray) (w : World) (h : Sl 3 pgC w A n L) (hA : A = none → n = 0) (hn : (n : Int) ≤ 1000000) (hd : ∀ x ∈ L, (x.d.size : Int) ≤ 1000000)
    {L' : List Pg} {hand' : Int} {b : Bool} (hr : write L lim hand pg d = (L', hand', b)) (hl : L'.length = L.length) :
    Calls Try.prog 20 #[.agg #[.slice A n cap, .int .i64 lim, .int .i64 hand], .int .i64 pg, .string d] w (To lim hand' n L' [.bool b] w) := by
  rw [h.1] at hl
  refine (write_any A n cap lim hand pg L d w h hA hn hd).mono ?_
  rintro e w' ⟨A', cap', he, hc, ho, hh⟩
  rw [hr] at he hc ho
  simp only at hl he hc ho
  rw [hl] at he hc ho
  exact ⟨A', cap', he, hc, ho, hh⟩
theorem write_length (L : List Pg) (lim hand pg : Int) (d : ByteArray) : (write L lim hand pg d).1.length = L.length := by
  unfold write
  split
  · rfl
  · split
    · exact touch_len L lim hand pg
    · rw [List.length_set]; exact touch_len L lim hand pg
theorem slA' {α : Type} {s : Nat} {f : α → List Value} {w : World} {A : Option Addr} {n : Nat} {L : List α} (h : Sl s f w A n L) : A = none → n = 0 := by
  rintro rfl
  rcases h.2 with h0 | ⟨b, off, e, _⟩
  · exact h0
  · cases e
set_option maxHeartbeats 16000000 in
theorem tells_any (A : Option Addr) (n cap : Nat) (lim hand pg st limit : Int) (L : List Pg) (d : ByteArray) (w : World) (h : Sl 3 pgC w A n L) (hn : (n : Int) ≤ 40) (hd : ∀ x ∈ L, (x.d.size : Int) ≤ 300) :
    Calls Try.prog 17 #[.agg #[.slice A n cap, .int .i64 lim, .int .i64 hand], .int .i64 pg, .int .i64 st, .string d, .int .i64 limit] w fun e w' => e = .returned (.bool true) ∧ Held w w' := by
  have HS := Lib.hid h
  have HLN := Lib.hid h.1
  have hd' : ∀ x ∈ L, (x.d.size : Int) ≤ 1000000 := fun x hx => by have := hd x hx; omega
  have HD := Lib.hid hd'
  have HDS : Hid (∀ s ∈ L.map Pg.d, (s.size : Int) ≤ 1000000) := fun s hs => by
    obtain ⟨x, hx, rfl⟩ := List.mem_map.1 hs
    exact hd' x hx
  have hA := Lib.hid (slA' h)
  have M0 := Lib.hid ((Mem.start w).alloc #[.slice A n cap, .int .i64 lim, .int .i64 hand] 32)
  clear h hd hd'
  go_enter Try.func17, Try.ntmps17
  go_wp2
  go_loopw [11, 12] (fun o i wr => ∃ (k : Nat) (A1 : Option Addr) (c1 : Nat), i = .int .i64 k ∧ k ≤ n ∧ o = .slice A1 k c1 ∧ Mem w wr [.box w.heap.size #[.slice A n cap, .int .i64 lim, .int .i64 hand] 32, .row 9 1 stC w.heap.size (.slice A1 k c1) ((L.take k).map Pg.d)]) (fun _ i _ => n - (intOf i).toNat)
  case atStart => exact ⟨0, none, 0, rfl, Nat.zero_le _, rfl, M0.out.nilRow⟩
  case round =>
    obtain ⟨k, A1, c1, rfl, hk, rfl, M⟩ := hrel
    have M1 := Lib.hid M
    obtain ⟨⟨p0, p1, p2⟩, _, plt⟩ := M.box3 0 rfl
    clear M M0
    by_cases hlt : (k : Int) < n
    · obtain ⟨b, off, x, rfl, hbw, hx, hc⟩ := HS.out.at_ M1.out.held (k := k) (by omega)
      have x1 := hc 1 _ rfl
      have HN : Hid ((L.take (k + 1)).map Pg.d = (L.take k).map Pg.d ++ [x.d]) := by
        obtain ⟨q1, q2⟩ := List.getElem?_eq_some_iff.1 hx
        show _ = _
        rw [List.take_succ_eq_append_getElem q1, q2, List.map_append]; rfl
      have HK : Hid (((L.take k).map Pg.d).length = k) := show _ = _ by rw [List.length_map, List.length_take, HLN.out]; omega
      clear hc hx
      go_wp2_with (at_builtin; refine Mem.wp_app (M1.out.skip _) 1 rfl rfl _ _ _ rfl _ 16 Try.underlying35 str_info rfl (by decide) stC_len stC_one x.d ⟨wr.heap.size, 0, none⟩ 1 rfl rfl (cells_new _ rfl _ _) k HK.out (by omega) (by decide) ?_; intro g4 cp4 w4 M4; have M5 := Lib.hid M4; clear M4)
      go_roundw
      case rel => exact ⟨k + 1, _, _, by go_num, by omega, rfl, by rw [HN.out]; exact M5.out⟩
      case measure => (simp [intOf]) <;> omega
    · obtain rfl : k = n := by omega
      have htk : L.take k = L := by rw [← HLN.out, List.take_length]
      rw [htk] at M1
      have hn1 := Own.reads stC_len (M1.out.row 1 rfl)
      have HN1 := Lib.hid (new_any A1 k c1 limit (L.map Pg.d) wr hn1.1 (by omega) HDS.out)
      have HN2 := Lib.hid (fun w' (q : Held wr w') => new_ref A1 k c1 limit (L.map Pg.d) w' (hn1.1.held q) (by omega) HDS.out)
      obtain ⟨T, hT⟩ : ∃ T, touch L lim hand pg = T := ⟨_, rfl⟩
      obtain ⟨rs, hrs⟩ : ∃ rs, readS L lim hand pg = rs := ⟨_, rfl⟩
      obtain ⟨WW, hW⟩ : ∃ WW, write L lim hand pg d = WW := ⟨_, rfl⟩
      obtain ⟨NN, hN⟩ : ∃ NN, newP (L.map Pg.d) limit = NN := ⟨_, rfl⟩
      have hwl := write_length L lim hand pg d
      obtain ⟨TL, th, ts⟩ := T
      obtain ⟨WL, wh, wb⟩ := WW
      obtain ⟨NL, nl, nb⟩ := NN
      rw [hW] at hwl
      rw [hN] at HN1 HN2
      have HT1 := Lib.hid (fun w' (q : Held w w') => touch_to A k cap lim hand pg L w' (HS.out.held q) hA.out (by omega) HD.out hT)
      have HT2 := Lib.hid (fun w' (q : Held w w') => touch_ref A k cap lim hand pg L w' (HS.out.held q) (by omega))
      have HR1 := Lib.hid (fun w' (q : Held w w') => read_to A k cap lim hand pg L w' (HS.out.held q) hA.out (by omega) HD.out hT hrs)
      have HR2 := Lib.hid (fun w' (q : Held w w') => read_ref A k cap lim hand pg L w' (HS.out.held q) (by omega))
      have HW1 := Lib.hid (fun w' (q : Held w w') => write_to A k cap lim hand pg L d w' (HS.out.held q) hA.out (by omega) HD.out hW hwl)
      have HW2 := Lib.hid (fun w' (q : Held w w') => write_ref A k cap lim hand pg L d w' (HS.out.held q) (by omega))
      have HV1 := Lib.hid (fun w' (q : Held w w') => valid_any A k cap lim hand L w' (HS.out.held q) (by omega) HD.out)
      have HV2 := Lib.hid (fun w' (q : Held w w') => valid_ref A k cap lim hand L w' (HS.out.held q) (by omega))
      have HC1 := Lib.hid (fun w' (q : Held w w') => count_any A k cap lim hand st L w' (HS.out.held q) (by omega))
      have HC2 := Lib.hid (fun w' (q : Held w w') => count_ref A k cap lim hand st L w' (HS.out.held q) (by omega))
      rw [hT] at HT2 HR2
      rw [hrs] at HR2
      rw [hW] at HW2
      obtain ⟨tb, htb⟩ : ∃ tb, decide (¬ ts = 0) = tb := ⟨_, rfl⟩
      rw [htb] at HR1
      simp only [htb] at HR2
      clear htb
      unfold grV at HV1 HV2 HC1 HC2
      obtain ⟨vb, hvb⟩ : ∃ vb, valid L lim hand = vb := ⟨_, rfl⟩
      obtain ⟨cn, hcn⟩ : ∃ cn, count st L = cn := ⟨_, rfl⟩
      rw [hvb] at HV1 HV2
      rw [hcn] at HC1 HC2
      have hnl : NL.length ≤ 32 := by
        have e : NL = (newP (L.map Pg.d) limit).1 := by rw [hN]
        rw [e]
        unfold newP
        split
        · rename_i ho
          rw [newL_len]
          unfold newOk newBad at ho
          simp at ho
          have := ho.1
          simp; omega
        · simp
      clear hT hrs hW hN hwl hvb hcn htk hn1
      obtain ⟨m, hm⟩ : ∃ m, NL.length = m := ⟨_, rfl⟩
      rw [hm] at hnl
      have HM := Lib.hid hm
      clear hm
      go_wp2_with fail
      refine HN1.out.mono ?_
      rintro e w1 ⟨Aa, ca, rfl, _, hoa, hh1⟩
      simp only at hoa ⊢
      rw [HM.out] at hoa ⊢
      unfold grV
      have M2 := Lib.hid (((M1.out.own hh1 hoa).alloc #[.slice Aa m ca, .int .i64 nl, .int .i64 0] 32))
      have S1 := Lib.hid (fun w' (q : Held w1 w') => ((Own.reads pgC_len hoa).1.held q))
      have K1 := Lib.hid hh1
      clear hoa hh1 HN1
      obtain ⟨⟨p0, p1, p2⟩, _, plt⟩ := M2.out.box3 0 rfl
      go_wp2_with fail
      refine (HN2.out _ (K1.out.alloc _)).mono ?_
      rintro e w2 ⟨Ab, cb, rfl, _, hob, hh2⟩
      simp only at hob ⊢
      rw [HM.out] at hob ⊢
      unfold grV
      have S2 := Lib.hid (fun w' (q : Held w2 w') => And.intro (S1.out w' (((Held.refl w1).alloc _).step (hh2.step q))) ((Own.reads pgC_len hob).1.held q))
      have M3 := Lib.hid ((M2.out.keep hh2).alloc #[.slice Ab m cb, .int .i64 nl, .int .i64 0] 32)
      clear hob hh2 HN2 S1 M2 K1 p0 p1 p2 plt
      obtain ⟨⟨p0, p1, p2⟩, _, plt⟩ := M3.out.box3 0 rfl
      go_wp2_with fail
      refine (HT1.out _ M3.out.held).mono ?_
      rintro e w3 ⟨Ac, cc, rfl, _, hoc, hh3⟩
      have S3 := Lib.hid (fun w' (q : Held w3 w') => And.intro (S2.out w' (((Held.refl w2).alloc _).step (hh3.step q))) ((Own.reads pgC_len hoc).1.held q))
      have M4 := Lib.hid ((M3.out.keep hh3).alloc #[.slice Ac k cc, .int .i64 lim, .int .i64 th] 32)
      clear hoc hh3 HT1 S2 M3 p0 p1 p2 plt
      obtain ⟨⟨p0, p1, p2⟩, _, plt⟩ := M4.out.box3 0 rfl
      go_wp2_with fail
      refine (HT2.out _ M4.out.held).mono ?_
      rintro e w4 ⟨Ad, cd, rfl, hod, hh4⟩
      have S4 := Lib.hid (fun w' (q : Held w4 w') => And.intro (S3.out w' (((Held.refl w3).alloc _).step (hh4.step q))) (hod.held q))
      have M5 := Lib.hid ((M4.out.keep hh4).alloc #[.slice Ad k cd, .int .i64 lim, .int .i64 th] 32)
      clear hod hh4 HT2 S3 M4 p0 p1 p2 plt
      obtain ⟨⟨p0, p1, p2⟩, _, plt⟩ := M5.out.box3 0 rfl
      go_wp2_with fail
      refine (HR1.out _ M5.out.held).mono ?_
      rintro e w5 ⟨Ae, ce, rfl, _, hoe, hh5⟩
      have S5 := Lib.hid (fun w' (q : Held w5 w') => And.intro (S4.out w' (((Held.refl w4).alloc _).step (hh5.step q))) ((Own.reads pgC_len hoe).1.held q))
      have M6 := Lib.hid ((M5.out.keep hh5).alloc #[.slice Ae k ce, .int .i64 lim, .int .i64 th] 32)
      clear hoe hh5 HR1 S4 M5 p0 p1 p2 plt
      obtain ⟨⟨p0, p1, p2⟩, _, plt⟩ := M6.out.box3 0 rfl
      go_wp2_with fail
      refine (HR2.out _ M6.out.held).mono ?_
      rintro e w6 ⟨Af, cf, rfl, hof, hh6⟩
      have S6 := Lib.hid (fun w' (q : Held w6 w') => And.intro (S5.out w' (((Held.refl w5).alloc _).step (hh6.step q))) (hof.held q))
      have M7 := Lib.hid ((M6.out.keep hh6).alloc #[.slice Af k cf, .int .i64 lim, .int .i64 th] 32)
      clear hof hh6 HR2 S5 M6 p0 p1 p2 plt
      obtain ⟨⟨p0, p1, p2⟩, _, plt⟩ := M7.out.box3 0 rfl
      go_wp2_with fail
      refine (HW1.out _ M7.out.held).mono ?_
      rintro e w7 ⟨Ag, cg, rfl, _, hog, hh7⟩
      have S7 := Lib.hid (fun w' (q : Held w7 w') => And.intro (S6.out w' (((Held.refl w6).alloc _).step (hh7.step q))) ((Own.reads pgC_len hog).1.held q))
      have M8 := Lib.hid ((M7.out.keep hh7).alloc #[.slice Ag k cg, .int .i64 lim, .int .i64 wh] 32)
      clear hog hh7 HW1 S6 M7 p0 p1 p2 plt
      obtain ⟨⟨p0, p1, p2⟩, _, plt⟩ := M8.out.box3 0 rfl
      go_wp2_with fail
      refine (HW2.out _ M8.out.held).mono ?_
      rintro e w8 ⟨Ah, ch, rfl, hoh, hh8⟩
      have S8 := Lib.hid (fun w' (q : Held w8 w') => And.intro (S7.out w' (((Held.refl w7).alloc _).step (hh8.step q))) (hoh.held q))
      have M9 := Lib.hid ((M8.out.keep hh8).alloc #[.slice Ah k ch, .int .i64 lim, .int .i64 wh] 32)
      clear hoh hh8 HW2 S7 M8 p0 p1 p2 plt
      obtain ⟨⟨p0, p1, p2⟩, _, plt⟩ := M9.out.box3 0 rfl
      go_wp2_with fail
      obtain ⟨w9, hw9⟩ : ∃ w9, w8.alloc (.cells #[.slice Ah k ch, .int .i64 lim, .int .i64 wh] 32) = w9 := ⟨_, rfl⟩
      have HW89 : Hid (Held w8 w9) := by rw [← hw9]; exact (Held.refl w8).alloc _
      rw [hw9] at M9 p0 p1 p2 plt ⊢
      clear hw9
      have kp0 := cell_regrown p0
      have kp1 := cell_regrown p1
      have kp2 := cell_regrown p2
      obtain ⟨⟨a0, a1, a2⟩, _, _⟩ := M9.out.box3 3 rfl
      have ka0 := cell_regrown a0
      have ka1 := cell_regrown a1
      have ka2 := cell_regrown a2
      obtain ⟨⟨b0, b1, b2⟩, _, _⟩ := M9.out.box3 4 rfl
      have kb0 := cell_regrown b0
      have kb1 := cell_regrown b1
      have kb2 := cell_regrown b2
      obtain ⟨⟨c0, c1, c2⟩, _, _⟩ := M9.out.box3 5 rfl
      have kc0 := cell_regrown c0
      have kc1 := cell_regrown c1
      have kc2 := cell_regrown c2
      obtain ⟨⟨d0, d1, d2⟩, _, _⟩ := M9.out.box3 6 rfl
      have kd0 := cell_regrown d0
      have kd1 := cell_regrown d1
      have kd2 := cell_regrown d2
      obtain ⟨⟨e0, e1, e2⟩, _, _⟩ := M9.out.box3 7 rfl
      have ke0 := cell_regrown e0
      have ke1 := cell_regrown e1
      have ke2 := cell_regrown e2
      obtain ⟨⟨f0, f1, f2⟩, _, _⟩ := M9.out.box3 8 rfl
      have kf0 := cell_regrown f0
      have kf1 := cell_regrown f1
      have kf2 := cell_regrown f2
      obtain ⟨⟨g0, g1, g2⟩, _, _⟩ := M9.out.box3 9 rfl
      have kg0 := cell_regrown g0
      have kg1 := cell_regrown g1
      have kg2 := cell_regrown g2
      obtain ⟨⟨h0, h1, h2⟩, _, _⟩ := M9.out.box3 10 rfl
      have kh0 := cell_regrown h0
      have kh1 := cell_regrown h1
      have kh2 := cell_regrown h2
      have SS := Lib.hid (fun dd os => S8.out (grow (redrawn w9 dd) os) (HW89.out.step (below_regrown w9 dd os)))
      have HH := Lib.hid (fun dd os => M9.out.held.step (below_regrown w9 dd os))
      have cA := Lib.hid fun dd os => Calls.regrown_of (d := dd) (os := os) (HV1.out (grow (redrawn w9 dd) os) (HH.out dd os))
      have cB := Lib.hid fun dd os => Calls.regrown_of (d := dd) (os := os) (HV2.out (grow (redrawn w9 dd) os) (HH.out dd os))
      have cC := Lib.hid fun dd os => Calls.regrown_of (d := dd) (os := os) (HC1.out (grow (redrawn w9 dd) os) (HH.out dd os))
      have cD := Lib.hid fun dd os => Calls.regrown_of (d := dd) (os := os) (HC2.out (grow (redrawn w9 dd) os) (HH.out dd os))
      have cE := Lib.hid fun dd os => Calls.regrown_of (d := dd) (os := os) (same_any Aa m ca Ab m cb nl 0 NL (grow (redrawn w9 dd) os) (SS.out dd os).1.1.1.1.1.1.1 (SS.out dd os).1.1.1.1.1.1.2 (by omega))
      have cF := Lib.hid fun dd os => Calls.regrown_of (d := dd) (os := os) (same_any Ac k cc Ad k cd lim th TL (grow (redrawn w9 dd) os) (SS.out dd os).1.1.1.1.1.2 (SS.out dd os).1.1.1.1.2 (by omega))
      have cG := Lib.hid fun dd os => Calls.regrown_of (d := dd) (os := os) (same_any Ae k ce Af k cf lim th TL (grow (redrawn w9 dd) os) (SS.out dd os).1.1.1.2 (SS.out dd os).1.1.2 (by omega))
      have cH := Lib.hid fun dd os => Calls.regrown_of (d := dd) (os := os) (same_any Ag k cg Ah k ch lim wh WL (grow (redrawn w9 dd) os) (SS.out dd os).1.2 (SS.out dd os).2 (by omega))
      have q1 : (vb == vb) = true := by simp
      have q2 : ((cn : Int) == cn) = true := by simp
      have q3 : (nb == nb) = true := by simp
      have q4 : (ts == ts) = true := by simp
      have q5 : (rs.toList == rs.toList) = true := by simp
      have q6 : (tb == tb) = true := by simp
      have q7 : (wb == wb) = true := by simp
      clear HV1 HV2 HC1 HC2 S8 p0 p1 p2 plt a0 a1 a2 b0 b1 b2 c0 c1 c2 d0 d1 d2 e0 e1 e2 f0 f1 f2 g0 g1 g2 h0 h1 h2
      refine wp_region_quiet_below (by kernel_rfl) (by kernel_rfl) ?_
      repeat (go_big_quiet_step (first | (go_at_call 24; exact cA.out _ _) | (go_at_call 32; exact cB.out _ _) | (go_at_call 23; exact cC.out _ _) | (go_at_call 33; exact cD.out _ _) | (go_at_call 34; first | (with_reducible exact cE.out _ _) | (with_reducible exact cF.out _ _) | (with_reducible exact cG.out _ _) | (with_reducible exact cH.out _ _))))
      refine wpQuiet_nil ?_
      intro _ hw'
      obtain ⟨⟨dq, osq⟩, hw''⟩ := hw'
      subst hw''
      go_wp2
      go_ret
      exact ⟨rfl, HH.out dq osq⟩
end Pg
end Go.Proofs.Ytgfbfmgdlbdlhaa
