/-
  What a law of chapter 24 needs: pieces joined; awake.
  Contracts: started of the laws of chapter 24.
-/
import Derived.Test.YthpjbffhdaaibaaGreatZ11
import Derived.Test.YthpjbffhdaaibaaGreatZ12
set_option linter.unusedVariables false
set_option linter.unusedSimpArgs false
set_option maxRecDepth 100000
namespace Go.Proofs.YthpjbffhdaaibaaGreat
open Go.RowKit Go.BigFrame Go.Sort Go.Lib
namespace Mem
/-- What a call has made, beside what was there. -/
theorem join {W w w' : World} {H H' : List Ck} (h : Mem W w H) (k : Mem w w' H') : Mem W w' (H ++ H') := by
  have h1 := h.keep k.held
  refine ⟨h1.held, fun c hc => ?_, ?_⟩
  · rcases List.mem_append.1 hc with hc | hc
    · exact h1.ok c hc
    · exact ⟨(k.ok c hc).1, fun b hb => Nat.le_trans h.le ((k.ok c hc).2 b hb)⟩
  · refine List.pairwise_append.2 ⟨h1.sep, k.sep, fun c hc d hd b hb hb' => ?_⟩
    have l1 := c.lt (h.ok c hc).1 b hb
    have l2 := (k.ok d hd).2 b hb'
    omega
theorem rebase {W w : World} {H : List Ck} (h : Mem W w H) (i : Nat) {α : Type} {e : TypeId} {s : Nat} {f : α → List Value} {base : Nat} {v : Value} {L : List α} (hi : H[i]? = some (.row e s f base v L)) (hb : W.heap.size ≤ base) : Mem W w (H.set i (.row e s f W.heap.size v L)) := by
  refine h.upd hi _ (Below.refl 0 w) (fun b _ _ => rfl) (Own.mono (h.row i hi) hb) (fun b hb => .inl hb)
/-- Two rows that a call has made. -/
theorem two {W w w' : World} {H : List Ck} (h : Mem W w H) {α β : Type} {e e' : TypeId} {s s' : Nat} {f : α → List Value} {f' : β → List Value} {v v' : Value} {L : List α} {L' : List β} (k : Mem w w' [.row e s f w.heap.size v L, .row e' s' f' w.heap.size v' L']) :
    Mem W w' (H ++ [.row e s f W.heap.size v L, .row e' s' f' W.heap.size v' L']) := by
  have hb := h.le
  have h1 := h.join k
  have h2 := h1.rebase H.length (by rw [List.getElem?_append_right (Nat.le_refl _), Nat.sub_self]; rfl) hb
  rw [List.set_append_right _ _ (Nat.le_refl _), Nat.sub_self] at h2
  have h3 := h2.rebase (H.length + 1) (by rw [List.getElem?_append_right (by omega), Nat.add_sub_cancel_left]; rfl) hb
  rw [List.set_append_right _ _ (by omega), Nat.add_sub_cancel_left] at h3
  exact h3
end Mem
namespace St
open Enc Uv Lg Lgc Strs
/-- The stream of awake: one segment. -/
def g1 : Seg := ⟨5, 9, []⟩
theorem ch1 : Ch 5 [g1] := by
  refine ⟨fun i hi => ?_, fun i hi => ?_, fun i hi => ?_⟩ <;> obtain rfl : i = 0 := by simpa using hi
  · rfl
  · exact (by decide : segOk g1 = true)
  · exact ⟨(by decide : g1.f < 18446744073709551616), (by decide : g1.kn < 18446744073709551616), fun e he => by simp [g1] at he⟩
theorem push1 : push ⟨1, 5, 5, []⟩ g1 = (⟨1, 9, 5, [g1]⟩, 0) := push_at ch1 (a := 0) (p := 0) (by decide) (by decide) (by decide) (by decide)
theorem pack1 : packets ⟨1, 9, 5, [g1]⟩ = [dataP 1 g1] := packets_at ch1 (a := 0) (p := 1) (by decide) (by decide) (by decide) (by decide)
theorem take1_ : take ⟨1, 5, []⟩ (dataP 1 g1) = (⟨2, 9, []⟩, [g1], true) := take_next ch1 (k := 0) (m := 1) (by decide) (by decide) (by decide)
theorem reply1 : reply ⟨2, 9, []⟩ = ackP 2 9 := reply_at ch1 (k := 1) (m := 1) (EI.nil _ _ _ _) (by decide) (by decide)
theorem acked1_ : acked ⟨1, 9, 5, [g1]⟩ (ackP 2 9) = (⟨2, 9, 9, []⟩, true) := acked_at ch1 (a := 0) (p := 1) (j := 1) (by decide) (by decide) (by decide) (by decide) (by decide) (by decide)
theorem data1_len : (dataP 1 g1).length ≤ 100000 := by
  have h := body_len g1 (ch1.inn 0 (by decide))
  have h1 := put_len 1 (by decide)
  unfold dataP packed
  simp only [List.length_append, be8_len, List.length_cons]
  have h2 := put_len ((body g1).1.length + 1) (by omega)
  omega
theorem sg1 (B : Nat) (w : World) : Sg B w ⟨5, 9, .none, 0, 0, []⟩ := ⟨Sl.nil _ _, .inl rfl, Nat.zero_le _, by decide, by decide, fun e h => by simp at h⟩
set_option maxHeartbeats 4000000 in
theorem awake_any (w : World) : Calls Tryz.prog 7 #[] w (BoolTo true w) := by
  have HN := Lib.hid (new_any 5 w)
  go_enter Tryz.func7, Tryz.ntmps7
  go_wp2_with fail
  refine HN.out.mono ?_
  rintro e w1 ⟨rfl, h1⟩
  have M1 := Lib.hid (((Mem.start w).keep h1 |>.alloc #[.int .u64 1, .int .u64 5, .int .u64 5, .slice none 0 0] 28).alloc' (b := w1.heap.size + 1) (by simp) #[.int .u64 1, .int .u64 5, .slice none 0 0] 31)
  clear h1 HN
  obtain ⟨⟨c0, c1, c2, c3⟩, ⟨f0, f1, f2, f3⟩, hl0⟩ := M1.out.box4 0 rfl
  obtain ⟨w2, hw2⟩ : ∃ w2, (w1.alloc (.cells #[.int .u64 1, .int .u64 5, .int .u64 5, .slice none 0 0] 28)).alloc (.cells #[.int .u64 1, .int .u64 5, .slice none 0 0] 31) = w2 := ⟨_, rfl⟩
  have HW2 := Lib.hid hw2
  have hp := push_any 1 5 5 none 0 0 [] 5 9 none 0 0 [] 0 w2 (Nat.zero_le _) (Sl.nil _ _) (Sgs.nil _ _) (by decide) (sg1 0 w2)
  have e1 : push ⟨1, 5, 5, gs []⟩ ⟨5, 9, []⟩ = (⟨1, 9, 5, [g1]⟩, 0) := push1
  rw [e1] at hp
  have HP := Lib.hid hp
  rw [hw2] at M1 c0 c1 c2 c3 f0 f1 f2 f3 hl0
  clear hw2 hp e1
  go_wp2_with fail
  rw [HW2.out]
  refine HP.out.mono ?_
  rintro e w3 ⟨A3, n3, cap3, rfl, ⟨R, hR, oR, sR⟩, h3⟩
  dsimp only at hR ⊢
  have hRl : R.length = 1 := by have := congrArg List.length hR; rw [gs_len] at this; exact this
  obtain rfl : n3 = 1 := by rw [← hRl]; exact (Own.reads segC_len oR).2.1
  have HR := Lib.hid hR
  have M3 := Lib.hid (M1.out.own h3 oR)
  have S3 := Lib.hid sR
  clear hR oR sR h3 HP HW2 M1 c0 c1 c2 c3 f0 f1 f2 f3 hl0 hRl
  obtain ⟨⟨c0, c1, c2, c3⟩, ⟨f0, f1, f2, f3⟩, hl0⟩ := M3.out.box4 0 rfl
  have M4 := Lib.hid (M3.out.put4 0 rfl (.int .u64 1) (.int .u64 9) (.int .u64 5) (.slice A3 1 cap3))
  have S4 := Lib.hid (S3.out.put4 (Blk.of M3.out 0 rfl (by decide) (Nat.zero_le _)) (.int .u64 1) (.int .u64 9) (.int .u64 5) (.slice A3 1 cap3))
  obtain ⟨w4, hw4⟩ : ∃ w4, (((w3.setCell ⟨w1.heap.size, 0, none⟩ (.int .u64 1)).setCell ⟨w1.heap.size, 1, none⟩ (.int .u64 9)).setCell ⟨w1.heap.size, 2, none⟩ (.int .u64 5)).setCell ⟨w1.heap.size, 3, none⟩ (.slice A3 1 cap3) = w4 := ⟨_, rfl⟩
  have HW4 := Lib.hid hw4
  rw [hw4] at M4 S4
  have hk := packets_any 1 9 5 A3 1 cap3 R 0 w4 (Own.reads segC_len (M4.out.row 2 rfl)).1 S4.out (by decide)
  rw [HR.out, pack1] at hk
  have HK := Lib.hid hk
  clear hk hw4 M3 S3
  go_wp2_with fail
  rw [HW4.out]
  refine HK.out.mono ?_
  rintro e w5 ⟨AL, nL, capL, rfl, oL, h5⟩
  have hLl : (strs [dataP 1 g1]).length = 1 := rfl
  obtain rfl : nL = 1 := by rw [← hLl]; exact (Own.reads stC_len oL).2.1
  have M5 := Lib.hid (M4.out.own h5 oL)
  have S5 := Lib.hid (S4.out.held h5)
  clear oL h5 HK HW4 M4 S4 c0 c1 c2 c3 f0 f1 f2 f3 hl0 hLl
  obtain ⟨gL, xL, rfl, hgeL, hglL, hxL, hxcL⟩ := M5.out.slot 3 rfl stC_len (by decide) (k := 0) (by decide)
  obtain ⟨dp, hdp⟩ : ∃ dp, dataP 1 g1 = dp := ⟨_, rfl⟩
  have hdl : dp.length ≤ 100000 := by rw [← hdp]; exact data1_len
  have hT1 : take ⟨1, 5, []⟩ dp = (⟨2, 9, []⟩, [g1], true) := by rw [← hdp]; exact take1_
  rw [hdp] at M5 hxL
  have hxe : xL = ⟨dp.toArray⟩ := by
    have : (strs [dp])[0]? = some ⟨dp.toArray⟩ := rfl
    rw [this] at hxL; injection hxL with hxL; exact hxL.symm
  subst hxe
  have y0 : w5.cell? ⟨gL, 0, none⟩ = some (.string ⟨dp.toArray⟩) := by have := (hxcL 0 (by decide)).2 _ rfl; simpa using this
  have HT := Lib.hid fun (w' : World) => take_any 1 5 none 0 0 [] ⟨dp.toArray⟩ 0 w' (Nat.zero_le _) (Sl.nil _ _) (Ers.nil _ _) (by decide) (by rw [ba_size]; omega)
  rw [show (⟨dp.toArray⟩ : ByteArray).data.toList = dp by simp, show ers [] = [] from rfl, hT1] at HT
  obtain ⟨⟨d0, d1, d2⟩, ⟨e0, e1, e2⟩, hl1⟩ := M5.out.box3 1 rfl
  clear hxL hxcL hgeL hdp hT1
  go_wp2
  go_region_law (first
    | (go_simp; go_at_call 26; refine (HT.out _).mono ?_; rintro e w6 ⟨AE, nE, cE, AD, nD, cD, RE, RD, rfl, hRE, hRD, hM6, hE6, hD6⟩; dsimp only at hRE hRD ⊢; have HRE := Lib.hid hRE; have HRD := Lib.hid hRD; have M6 := Lib.hid ((M5.out.drew).two hM6); have S6 := Lib.hid (S5.out.held ((Held.refl w5).drew.step hM6.held)); have E6 := Lib.hid hE6; have D6 := Lib.hid hD6; obtain ⟨⟨p0, p1, p2⟩, ⟨q0, q1, q2⟩, pl⟩ := M6.out.box3 1 rfl; clear hRE hRD hM6 hE6 hD6))
  all_goals
    have hDl : RD.length = 1 := by have := congrArg List.length HRD.out; rw [gs_len] at this; exact this
    have hEl : RE.length = 0 := by have := congrArg List.length HRE.out; rw [ers_len] at this; exact this
    obtain rfl : nD = 1 := by rw [← hDl]; exact (Own.reads segC_len (M6.out.row 5 rfl)).2.1
    obtain rfl : nE = 0 := by rw [← hEl]; exact (Own.reads erC_len (M6.out.row 4 rfl)).2.1
    have M7 := Lib.hid (M6.out.put3 1 rfl (.int .u64 2) (.int .u64 9) (.slice AE 0 cE))
    have S7 := Lib.hid (S6.out.put3 (Blk.of M6.out 1 rfl (by decide) (Nat.zero_le _)) (.int .u64 2) (.int .u64 9) (.slice AE 0 cE))
    have E7 := Lib.hid (E6.out.put3 (Blk.of M6.out 1 rfl (by decide) (Nat.zero_le _)) (.int .u64 2) (.int .u64 9) (.slice AE 0 cE))
    obtain ⟨w7, hw7⟩ : ∃ w7, ((w6.setCell ⟨w1.heap.size + 1, 0, none⟩ (.int .u64 2)).setCell ⟨w1.heap.size + 1, 1, none⟩ (.int .u64 9)).setCell ⟨w1.heap.size + 1, 2, none⟩ (.slice AE 0 cE) = w7 := ⟨_, rfl⟩
    have HW7 := Lib.hid hw7
    rw [hw7] at M7 S7 E7
    have hr := fun (w' : World) (k : Held w7 w') => reply_any 2 9 AE 0 cE RE 0 w' ((Own.reads erC_len (M7.out.row 4 rfl)).1.held k) (E7.out.held k) (by decide) (by decide) (by decide)
    rw [HRE.out, reply1] at hr
    have hak : ((⟨(ackP 2 9).toArray⟩ : ByteArray).size : Int) ≤ 1000000000000 := by
      rw [ba_size]
      have h1 := put_len 2 (by decide)
      have h2 := put_len 9 (by decide)
      have h3 := put_len (65 :: put 9).length (by rw [List.length_cons]; omega)
      unfold ackP packed
      simp only [List.length_append, be8_len, List.length_cons] at h3 ⊢
      omega
    have ha := fun (w' : World) (k : Held w7 w') => acked_any 1 9 5 A3 1 cap3 R ⟨(ackP 2 9).toArray⟩ 0 w' (Nat.zero_le _) ((Own.reads segC_len (M7.out.row 2 rfl)).1.held k) (S7.out.held k) (by decide) hak
    rw [HR.out, show (⟨(ackP 2 9).toArray⟩ : ByteArray).data.toList = ackP 2 9 by simp, acked1_] at ha
    generalize ackP 2 9 = ak at hr ha
    have HRP := Lib.hid hr
    have HAC := Lib.hid ha
    clear hr ha hak hw7 p0 p1 p2 q0 q1 q2 pl hDl hEl
    obtain ⟨⟨p0, p1, p2⟩, ⟨q0, q1, q2⟩, pl⟩ := M7.out.box3 1 rfl
    obtain ⟨⟨s0, s1, s2, s3⟩, ⟨sf0, sf1, sf2, sf3⟩, sl⟩ := M7.out.box4 0 rfl
    go_wp2
    rw [HW7.out]
    go_region_law (first
      | (go_simp; go_at_call 24; refine (HAC.out _ K8.out).mono ?_; rintro e w9 ⟨A9, n9, c9, rfl, ⟨R9, hR9, oR9, sR9⟩, h9⟩; dsimp only at hR9 ⊢; have HR9 := Lib.hid hR9; have M9 := Lib.hid ((M7.out.keep K8.out).own h9 oR9); obtain ⟨⟨u0, u1, u2, u3⟩, ⟨uf0, uf1, uf2, uf3⟩, ul⟩ := M9.out.box4 0 rfl; clear hR9 oR9 sR9 h9)
      | (go_simp; go_at_call 17; refine (HRP.out _ (Held.refl w7).drew).mono ?_; rintro e w8 ⟨rfl, h8⟩; have K8 := Lib.hid ((Held.refl w7).drew.step h8); obtain ⟨⟨v0, v1, v2⟩, _, vl⟩ := (M7.out.keep K8.out).box3 1 rfl; obtain ⟨⟨t0, t1, t2, t3⟩, ⟨tf0, tf1, tf2, tf3⟩, tl⟩ := (M7.out.keep K8.out).box4 0 rfl; clear h8))
    all_goals
      have hl9 : R9.length = 0 := by have := congrArg List.length HR9.out; rw [gs_len] at this; exact this
      obtain rfl : n9 = 0 := by rw [← hl9]; exact (Own.reads segC_len (M9.out.row 6 rfl)).2.1
      have MA := Lib.hid (M9.out.put4 0 rfl (.int .u64 2) (.int .u64 9) (.int .u64 9) (.slice A9 0 c9))
      obtain ⟨⟨x0, x1, x2, x3⟩, _, xl⟩ := MA.out.box4 0 rfl
      obtain ⟨⟨y0', y1, y2⟩, _, yl⟩ := MA.out.box3 1 rfl
      obtain ⟨gD, xD, rfl, hgeD, hglD, hxD, hxcD⟩ := MA.out.slot 5 rfl segC_len (by decide) (k := 0) (by have := congrArg List.length HRD.out; rw [gs_len] at this; rw [this]; decide)
      have hkn : xD.kn = 9 := by
        have := gs_at hxD
        rw [HRD.out] at this
        simp only [List.getElem?_cons_zero, Option.some.injEq] at this
        have := congrArg Seg.kn this
        exact this.symm
      have z1 := (hxcD 1 (by decide)).2 _ rfl
      rw [hkn] at z1
      simp only [Nat.zero_mul, Nat.zero_add] at z1
      clear hxcD hxD hkn
      go_wp2
      first | go_ret | skip
      first | exact BoolTo.mk rfl MA.out.held | skip

end St
end Go.Proofs.YthpjbffhdaaibaaGreat

set_option linter.unusedVariables false
set_option linter.unusedSimpArgs false
set_option maxRecDepth 100000
namespace Go.Proofs.YthpjbffhdaaibaaGreat
open Go.RowKit Go.BigFrame Go.Sort Go.Lib
namespace St
open Enc Uv Lg Lgc Strs
theorem res_cct {fn : Func} {tmps : Array Value} {w : World} {a b a' b' k : Nat} {t t' : TypeId} {v v' : Value} (hr : fn.results = #[.cell a t, .cell a' t', .tmp k]) (ha : tmps.getD a undef = .pointer (some ⟨b, 0, none⟩)) (ha' : tmps.getD a' undef = .pointer (some ⟨b', 0, none⟩)) (hl : (loadVar t ⟨b, 0, none⟩).run Tryz.prog w = .ok v w) (hl' : (loadVar t' ⟨b', 0, none⟩).run Tryz.prog w = .ok v' w) : (results fn tmps).run Tryz.prog w = .ok (.tuple #[v, v', tmps.getD k undef]) w := by
  unfold results
  rw [hr]
  simp only [List.mapM_toArray, List.mapM_cons, List.mapM_nil, ha, ha', asAddr, pure_bind, Sem.run_bind, Sem.run_map, hl, hl', Result.andThen_ok, Sem.run_pure, map_pure]
  rfl
/-- Both sides, with the first segments pushed. -/
def StTo (B at_ : Nat) (G : List Seg) (w : World) (e : Ending) (w' : World) : Prop := ∃ A n cap, e = .returned (.tuple #[.agg #[.int .u64 1, .int .u64 (pos at_ G (min G.length 8) : Nat), .int .u64 at_, .slice A n cap], .agg #[.int .u64 1, .int .u64 at_, .slice none 0 0], .bool true]) ∧ OwnQ B w w' (.slice A n cap) (G.take (min G.length 8)) ∧ Held w w'
theorem sndAt0 (at_ : Nat) (G : List Seg) (p : Nat) : sndAt at_ G 0 p = ⟨1, pos at_ G p, at_, G.take p⟩ := rfl
set_option maxHeartbeats 4000000 in
theorem started_any (A : Option Addr) (n cap : Nat) (R : List SR) (at_ : Nat) (B : Nat) (w : World) (hB : B ≤ w.heap.size) (h : Sl 3 segC w A n R) (hs : Sgs B w R) (hch : Ch at_ (gs R)) (hn : n ≤ 1000) (ha : (at_ : Int) ≤ 18446744073709551615) :
    Calls Tryz.prog 33 #[.slice A n cap, .int .u64 (at_ : Int)] w (StTo B at_ (gs R) w) := by
  have HS := Lib.hid h
  have HG := Lib.hid hs
  have HCH := Lib.hid hch
  have HL : Is R.length n := ⟨h.1⟩
  have HGL : Is (gs R).length n := ⟨by rw [gs_len]; exact h.1⟩
  have HBB := Lib.hid hB
  clear h hs hch hB
  have M0 := Lib.hid (((Mem.start w).alloc' (b := w.heap.size) rfl #[.int .u64 0, .int .u64 0, .int .u64 0, .slice none 0 0] 28).alloc' (b := w.heap.size + 1) (by simp) #[.int .u64 0, .int .u64 0, .slice none 0 0] 31)
  have HN := Lib.hid fun w => new_any at_ w
  go_enter Tryz.func33, Tryz.ntmps33
  go_wp2_with fail
  refine (HN.out _).mono ?_
  rintro e w1 ⟨rfl, h1⟩
  have M1 := Lib.hid ((((M0.out.keep h1).alloc #[.int .u64 1, .int .u64 at_, .int .u64 at_, .slice none 0 0] 28).alloc' (b := w1.heap.size + 1) (by simp) #[.int .u64 1, .int .u64 at_, .slice none 0 0] 31).nilRow (e := 25) (s := 3) (f := segC))
  clear h1 HN M0
  go_wp2
  go_loopw [9] (fun i wr => ∃ (q nq cq : Nat) (AQ : Option Addr) (RQ : List SR), i = .int .i64 (q : Int) ∧ q ≤ n ∧ q ≤ 8 ∧ gs RQ = (gs R).take q ∧ nq = q ∧ Sgs B wr RQ ∧ Mem w wr [.box w.heap.size #[.int .u64 0, .int .u64 0, .int .u64 0, .slice none 0 0] 28, .box (w.heap.size + 1) #[.int .u64 0, .int .u64 0, .slice none 0 0] 31, .box w1.heap.size #[.int .u64 1, .int .u64 (pos at_ (gs R) q : Nat), .int .u64 at_, .slice AQ nq cq] 28, .box (w1.heap.size + 1) #[.int .u64 1, .int .u64 at_, .slice none 0 0] 31, .row 25 3 segC w.heap.size (.slice AQ nq cq) RQ]) (fun i _ => n - (RowKit.intOf i).toNat)
  case atStart => exact ⟨0, 0, 0, none, [], rfl, Nat.zero_le _, by omega, rfl, rfl, Sgs.nil _ _, M1.out⟩
  case round =>
    obtain ⟨q, nq, cq, AQ, RQ, rfl, hq, hq8, hgq, rfl, hs, hM⟩ := hrel
    have HGQ := Lib.hid hgq
    have SS := Lib.hid hs
    have M := Lib.hid hM
    have hz := hM.held.le
    clear hgq hs hM M1
    obtain ⟨⟨c0, c1, c2, c3⟩, ⟨f0, f1, f2, f3⟩, hl⟩ := M.out.box4 2 rfl
    have HPO : Is (pos at_ (gs R) nq) (pos at_ (gs R) nq) := ⟨rfl⟩
    by_cases hlt : nq < n
    · have z2 : (nq : Int) < n := by omega
      have z3 : (0 : Int) ≤ nq := by omega
      by_cases h8 : nq < 8
      · have z8 : (nq : Int) < 8 := by omega
        obtain ⟨b, off, f, kn, XA, xn, xc, es, rfl, hb, hx, x0, x1, x2⟩ := segAt HS.out M.out.held (k := nq) hlt
        have hgl : nq < (gs R).length := by rw [HGL.out]; exact hlt
        have hge : (gs R)[nq] = ⟨f, kn, es⟩ := by
          have := gs_at hx
          rw [List.getElem?_eq_getElem hgl] at this
          injection this
        have hpu := push_at HCH.out (a := 0) (p := nq) (Nat.zero_le _) hgl (by omega) (by omega)
        rw [if_pos (by omega), hge, sndAt0, sndAt0] at hpu
        have hbb : b < wr.heap.size := by omega
        have hpc := fun (w' : World) (k : Held wr w') => push_any 1 (pos at_ (gs R) nq) at_ AQ nq cq RQ f kn XA xn xc es B w' (Nat.le_trans HBB.out (Nat.le_trans hz k.le)) ((Own.reads segC_len (M.out.row 4 rfl)).1.held k) (SS.out.held k) (by omega) ((HG.out.at_ hx).held (M.out.held.step k))
        rw [HGQ.out, hpu] at hpc
        have HPC := Lib.hid hpc
        obtain ⟨p1, hp1⟩ : ∃ p1, pos at_ (gs R) (nq + 1) = p1 := ⟨_, rfl⟩
        obtain ⟨p0, hp0⟩ : ∃ p0, pos at_ (gs R) nq = p0 := ⟨_, rfl⟩
        have HP1 := Lib.hid hp1
        rw [hp1, hp0] at HPC
        rw [hp0] at c1 M
        clear hpc hpu hx hge hb hp1 hp0 HPO
        go_wp2
        have MZ := Lib.hid (M.out.alloc #[.int .u64 0, .int .u64 0, .int .u64 0, .slice none 0 0] 28)
        have hZ := Lib.hid ((Held.refl wr).alloc (.cells #[.int .u64 0, .int .u64 0, .int .u64 0, .slice none 0 0] 28)).drew
        go_region_law (first
          | (go_simp; go_at_call 22; refine (HPC.out _ (Held.refl wr).drew).mono ?_; rintro e w4 ⟨A4, n4, c4, rfl, ⟨R4, hR4, oR4, sR4⟩, h4⟩; dsimp only at hR4 ⊢; have HR4 := Lib.hid hR4; have MB := Lib.hid ((M.out.drew).own h4 oR4); have SB := Lib.hid sR4; clear hR4 oR4 sR4 h4)
          | (go_simp; go_at_call 22; refine (HPC.out _ hZ.out).mono ?_; rintro e w4 ⟨A4, n4, c4, rfl, ⟨R4, hR4, oR4, sR4⟩, h4⟩; dsimp only at hR4 ⊢; have HR4 := Lib.hid hR4; have MA := Lib.hid ((MZ.out.drew).own h4 oR4); have SA := Lib.hid sR4; obtain ⟨⟨z0, z1, z2', z3'⟩, ⟨zf0, zf1, zf2, zf3⟩, zl⟩ := MA.out.box4 5 rfl; clear hR4 oR4 sR4 h4))
        all_goals
          first
          | (have MX := Lib.hid ((MA.out.put4 5 rfl (.int .u64 1) (.int .u64 (p1 : Int)) (.int .u64 at_) (.slice A4 n4 c4)).sel [0, 1, 2, 3, 6, 5] (by decide)); have SX := Lib.hid (SA.out.put4 (Blk.of MA.out 5 rfl (by decide) HBB.out) (.int .u64 1) (.int .u64 (p1 : Int)) (.int .u64 at_) (.slice A4 n4 c4)); clear z0 z1 z2' z3' zf0 zf1 zf2 zf3 zl MA SA)
          | (have MX := Lib.hid ((MB.out.alloc #[.int .u64 1, .int .u64 (p1 : Int), .int .u64 at_, .slice A4 n4 c4] 28).sel [0, 1, 2, 3, 5, 6] (by decide)); have SX := Lib.hid (SB.out.held ((Held.refl w4).alloc (.cells #[.int .u64 1, .int .u64 (p1 : Int), .int .u64 at_, .slice A4 n4 c4] 28))); clear MB SB)
          clear c0 c1 c2 c3 f0 f1 f2 f3 hl x0 x1 x2 hbb HPC MZ hZ M SS
          obtain ⟨⟨c0, c1, c2, c3⟩, ⟨f0, f1, f2, f3⟩, hl⟩ := MX.out.box4 2 rfl
          obtain ⟨⟨x0, x1, x2, x3⟩, _, xl⟩ := MX.out.box4 5 rfl
          have hne := MX.out.ne 2 5 rfl rfl (by decide)
          have hne2 := MX.out.ne 5 2 rfl rfl (by decide)
          have HGQ2 : Hid (gs R4 = (gs R).take (nq + 1)) := HR4.out
          have hn4 : n4 = nq + 1 := by
            have h1 := (Own.reads segC_len (MX.out.row 4 rfl)).2.1
            have h2 := congrArg List.length HR4.out
            rw [gs_len, List.length_take, HGL.out] at h2
            omega
          have MF := Lib.hid ((MX.out.put4 2 rfl (.int .u64 1) (.int .u64 (p1 : Int)) (.int .u64 at_) (.slice A4 n4 c4)).take 5)
          have SF := Lib.hid (SX.out.put4 (Blk.of MX.out 2 rfl (by decide) HBB.out) (.int .u64 1) (.int .u64 (p1 : Int)) (.int .u64 at_) (.slice A4 n4 c4))
          have HN4 : Is n4 (nq + 1) := ⟨hn4⟩
          clear hn4 HR4 HGQ
          go_wp2
          go_roundw
          case rel => exact ⟨nq + 1, n4, c4, A4, R4, by go_num, by omega, by omega, HGQ2.out, HN4.out, SF.out, by rw [HP1.out]; exact MF.out⟩
          case measure => (simp [RowKit.intOf]) <;> omega
      · have z8 : ¬ (nq : Int) < 8 := by omega
        have z8d : decide ((nq : Int) < 8) = false := decide_eq_false z8
        have HMN : Is (min (gs R).length 8) nq := ⟨by rw [HGL.out]; omega⟩
        obtain ⟨⟨a0, a1, a2, a3⟩, ⟨af0, af1, af2, af3⟩, al⟩ := M.out.box4 0 rfl
        obtain ⟨⟨b0, b1, b2⟩, ⟨bf0, bf1, bf2⟩, bl⟩ := M.out.box3 1 rfl
        obtain ⟨⟨d0, d1, d2⟩, _, dl⟩ := M.out.box3 3 rfl
        have n02 := M.out.ne 0 2 rfl rfl (by decide)
        have n20 := M.out.ne 2 0 rfl rfl (by decide)
        have n03 := M.out.ne 0 3 rfl rfl (by decide)
        have n30 := M.out.ne 3 0 rfl rfl (by decide)
        have n12 := M.out.ne 1 2 rfl rfl (by decide)
        have n21 := M.out.ne 2 1 rfl rfl (by decide)
        have n13 := M.out.ne 1 3 rfl rfl (by decide)
        have n31 := M.out.ne 3 1 rfl rfl (by decide)
        obtain ⟨p0, hp0⟩ : ∃ p0, pos at_ (gs R) nq = p0 := ⟨_, rfl⟩
        have HP0 := Lib.hid hp0
        rw [hp0] at c1 M
        clear hp0 HPO
        go_wp2
        go_region
        all_goals
          go_wp2
          have MF := ((M.out.put4 0 rfl (.int .u64 1) (.int .u64 (p0 : Int)) (.int .u64 at_) (.slice AQ nq cq)).put3 1 rfl (.int .u64 1) (.int .u64 at_) (.slice none 0 0)).drew
          have SF := ((SS.out.put4 (Blk.of M.out 0 rfl (by decide) HBB.out) (.int .u64 1) (.int .u64 (p0 : Int)) (.int .u64 at_) (.slice AQ nq cq)).put3 (Blk.of (M.out.put4 0 rfl (.int .u64 1) (.int .u64 (p0 : Int)) (.int .u64 at_) (.slice AQ nq cq)) 1 rfl (by decide) HBB.out) (.int .u64 1) (.int .u64 at_) (.slice none 0 0)).held (Held.refl _).drew
          refine bodyPost_ret (res_cct Tryz.results33 rfl rfl (snd_load (MF.blk 0 rfl)) (rcv_load (MF.blk 1 rfl))) rfl ?_
          refine ⟨AQ, nq, cq, ?_, ⟨RQ, ?_, MF.row 4 rfl, SF⟩, MF.held⟩
          · rw [HMN.out, HP0.out]; rfl
          · rw [HMN.out]; exact HGQ.out
    · obtain rfl : nq = n := by omega
      have z2 : ¬ (nq : Int) < nq := by omega
      have HMN : Is (min (gs R).length 8) nq := ⟨by rw [HGL.out]; omega⟩
      obtain ⟨⟨a0, a1, a2, a3⟩, ⟨af0, af1, af2, af3⟩, al⟩ := M.out.box4 0 rfl
      obtain ⟨⟨b0, b1, b2⟩, ⟨bf0, bf1, bf2⟩, bl⟩ := M.out.box3 1 rfl
      obtain ⟨⟨d0, d1, d2⟩, _, dl⟩ := M.out.box3 3 rfl
      have n02 := M.out.ne 0 2 rfl rfl (by decide)
      have n20 := M.out.ne 2 0 rfl rfl (by decide)
      have n03 := M.out.ne 0 3 rfl rfl (by decide)
      have n30 := M.out.ne 3 0 rfl rfl (by decide)
      have n12 := M.out.ne 1 2 rfl rfl (by decide)
      have n21 := M.out.ne 2 1 rfl rfl (by decide)
      have n13 := M.out.ne 1 3 rfl rfl (by decide)
      have n31 := M.out.ne 3 1 rfl rfl (by decide)
      obtain ⟨p0, hp0⟩ : ∃ p0, pos at_ (gs R) nq = p0 := ⟨_, rfl⟩
      have HP0 := Lib.hid hp0
      rw [hp0] at c1 M
      clear hp0 HPO
      go_wp2
      go_region
      all_goals
        go_wp2
        have MF := ((M.out.put4 0 rfl (.int .u64 1) (.int .u64 (p0 : Int)) (.int .u64 at_) (.slice AQ nq cq)).put3 1 rfl (.int .u64 1) (.int .u64 at_) (.slice none 0 0)).drew
        have SF := ((SS.out.put4 (Blk.of M.out 0 rfl (by decide) HBB.out) (.int .u64 1) (.int .u64 (p0 : Int)) (.int .u64 at_) (.slice AQ nq cq)).put3 (Blk.of (M.out.put4 0 rfl (.int .u64 1) (.int .u64 (p0 : Int)) (.int .u64 at_) (.slice AQ nq cq)) 1 rfl (by decide) HBB.out) (.int .u64 1) (.int .u64 at_) (.slice none 0 0)).held (Held.refl _).drew
        refine bodyPost_ret (res_cct Tryz.results33 rfl rfl (snd_load (MF.blk 0 rfl)) (rcv_load (MF.blk 1 rfl))) rfl ?_
        refine ⟨AQ, nq, cq, ?_, ⟨RQ, ?_, MF.row 4 rfl, SF⟩, MF.held⟩
        · rw [HMN.out, HP0.out]; rfl
        · rw [HMN.out]; exact HGQ.out
end St
end Go.Proofs.YthpjbffhdaaibaaGreat
