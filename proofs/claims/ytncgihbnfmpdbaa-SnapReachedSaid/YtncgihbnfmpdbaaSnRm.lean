/-
  Contracts: the views again (also where there is no such node), tells of the law (chapter 41).
-/
import Derived.Test.YtncgihbnfmpdbaaSnRk
import Derived.Test.YtncgihbnfmpdbaaSnRl
import Derived.Test.YtncgihbnfmpdbaaSnAc
import Derived.Lib.QuietBelow
set_option linter.unusedVariables false
set_option linter.unusedSimpArgs false
set_option maxRecDepth 100000
namespace Go.Proofs.Ytncgihbnfmpdbaa
open Go.RowKit Go.BigFrame Go.Sort
namespace Sn
/-- What both views hand back. -/
def VwX (T : Tr) (n : Int) (w : World) (e : Ending) (w' : World) : Prop :=
  ∃ A m cap, e = .returned (.tuple #[.slice A m cap, .bool (hasB T n)]) ∧ Sl 1 stC w' A m (if hasB T n then viewTo T n T.base.length else []) ∧ Held w w'
theorem VwX.of {T : Tr} {n : Int} {w w' : World} {e : Ending} (h : VwTo T n w e w') (hb : hasB T n = true) : VwX T n w e w' := by
  obtain ⟨A, m, cap, L, h1, h2, h3, h4⟩ := h
  refine ⟨A, m, cap, h1, ?_, h4⟩
  rw [if_pos hb, ← h3 hb]
  exact (Own.reads stC_len h2).1
theorem VwX.no {T : Tr} {n : Int} {w w' : World} (hb : hasB T n = false) (h : Held w w') : VwX T n w (.returned (.tuple #[.slice none 0 0, .bool false])) w' := by
  refine ⟨none, 0, 0, by rw [hb], ?_, h⟩
  rw [hb]
  exact (Own.reads stC_len (Own.nil (e := 9) (s := 1) (f := stC) (base := 0) w')).1
set_option maxHeartbeats 2000000 in
theorem view2_any (Ab : Option Addr) (nb cb : Nat) (An : Option Addr) (nn cn : Nat) (T : Tr) (n : Int) (w : World) (h : TrR w Ab nb An nn T) (hv : Ok T) :
    Calls Try.prog 15 #[.agg #[.slice Ab nb cb, .slice An nn cn], .int .i64 n] w (VwX T n w) := by
  obtain ⟨hb, hhb⟩ : ∃ q, hasB T n = q := ⟨_, rfl⟩
  cases hb
  · have M0 := Lib.hid ((Mem.start w).alloc #[.slice Ab nb cb, .slice An nn cn] 27)
    have HHA := Lib.hid (fun w' (q : Held w w') => has_any Ab nb cb An nn cn T n w' (h.held q) hv)
    have HP := Lib.hid hhb
    rw [hhb] at HHA
    clear h hv hhb
    go_enter Try.func15, Try.ntmps15
    go_wp2_with (go_at_call 25; refine (HHA.out _ M0.out.held).mono ?_; rintro e w1 ⟨rfl, h1⟩; have M1 := Lib.hid (M0.out.keep h1); obtain ⟨⟨u0, u1⟩, _, ult⟩ := M1.out.box2 0 rfl)
    go_ret2
    exact VwX.no HP.out M1.out.held
  · exact (view_any Ab nb cb An nn cn T n w h hv).mono fun e w' q => VwX.of q hhb
set_option maxHeartbeats 2000000 in
theorem rview2_any (Ab : Option Addr) (nb cb : Nat) (An : Option Addr) (nn cn : Nat) (T : Tr) (n : Int) (w : World) (h : TrR w Ab nb An nn T) (hv : Ok T) :
    Calls Try.prog 33 #[.agg #[.slice Ab nb cb, .slice An nn cn], .int .i64 n] w (VwX T n w) := by
  obtain ⟨hb, hhb⟩ : ∃ q, hasB T n = q := ⟨_, rfl⟩
  cases hb
  · have M0 := Lib.hid ((Mem.start w).alloc #[.slice Ab nb cb, .slice An nn cn] 27)
    have HVA := Lib.hid (fun w' (q : Held w w') => rvalid_any Ab nb cb An nn cn T w' (h.held q) hv)
    have HEX := Lib.hid (fun w' (q : Held w w') => rexists_any Ab nb cb An nn cn T n w' (h.held q))
    have HP := Lib.hid hhb
    obtain ⟨hn1, hxf⟩ : n ≠ -1 ∧ ex T.nodes n = false := by
      unfold hasB at hhb; rw [Bool.or_eq_false_iff, decide_eq_false_iff_not] at hhb; exact hhb
    have hb1 : (n != -1) = true := by simp [hn1]
    rw [hxf] at HEX
    clear h hv hhb hxf hn1
    go_enter Try.func33, Try.ntmps33
    go_wp2_with (first | (go_at_call 34; refine (HVA.out _ M0.out.held).mono ?_; rintro e w1 ⟨rfl, h1⟩; have M1 := Lib.hid (M0.out.keep h1); obtain ⟨⟨u0, u1⟩, _, ult⟩ := M1.out.box2 0 rfl) | (go_at_call 45; refine (HEX.out _ M1.out.held).mono ?_; rintro e w2 ⟨rfl, h2⟩; have M2 := Lib.hid (M1.out.keep h2); obtain ⟨⟨v0, v1⟩, _, vlt⟩ := M2.out.box2 0 rfl))
    go_ret2
    exact VwX.no HP.out M2.out.held
  · exact (rview_any Ab nb cb An nn cn T n w h hv).mono fun e w' q => VwX.of q hhb
theorem rsameT_any (Ab : Option Addr) (nb cb : Nat) (An : Option Addr) (nn cn : Nat) (Ab2 : Option Addr) (nb2 cb2 : Nat) (An2 : Option Addr) (nn2 cn2 : Nat) (T : Tr) (w : World) (h1 : TrR w Ab nb An nn T) (h2 : TrR w Ab2 nb2 An2 nn2 T) (hv : Ok T) :
    Calls Try.prog 36 #[.agg #[.slice Ab nb cb, .slice An nn cn], .agg #[.slice Ab2 nb2 cb2, .slice An2 nn2 cn2]] w fun e w' => e = .returned (.bool true) ∧ Held w w' := by
  obtain rfl : nb = nb2 := h1.bs.1.symm.trans h2.bs.1
  obtain rfl : nn = nn2 := h1.nn.symm.trans h2.nn
  exact rsameTree_any Ab nb cb An nn cn Ab2 cb2 An2 cn2 T w h1 h2 hv
theorem rsameS_any (A : Option Addr) (n cap : Nat) (A2 : Option Addr) (n2 cap2 : Nat) (L : List ByteArray) (w : World) (h1 : Sl 1 stC w A n L) (h2 : Sl 1 stC w A2 n2 L) (hn : (L.length : Int) ≤ 1000000) :
    Calls Try.prog 16 #[.slice A n cap, .slice A2 n2 cap2] w fun e w' => e = .returned (.bool true) ∧ Held w w' := by
  obtain rfl : n = n2 := h1.1.symm.trans h2.1
  exact rsame_any A n cap A2 cap2 L w h1 h2 (by rw [← h1.1]; exact hn)
theorem ok_base {T : Tr} (h : Ok T) : Ok ⟨T.base, []⟩ := ⟨h.base1, h.base2, h.base3, by simp, fun i x hx => by simp at hx⟩
/-- Two trees that read the same. -/
structure Two (w : World) (Ab : Option Addr) (nb : Nat) (An : Option Addr) (nn : Nat) (Ab2 : Option Addr) (nb2 : Nat) (An2 : Option Addr) (nn2 : Nat) (T : Tr) : Prop where
  l : TrR w Ab nb An nn T
  r : TrR w Ab2 nb2 An2 nn2 T
theorem Two.held {w a : World} {Ab : Option Addr} {nb : Nat} {An : Option Addr} {nn : Nat} {Ab2 : Option Addr} {nb2 : Nat} {An2 : Option Addr} {nn2 : Nat} {T : Tr} (h : Two w Ab nb An nn Ab2 nb2 An2 nn2 T) (q : Held w a) : Two a Ab nb An nn Ab2 nb2 An2 nn2 T := ⟨h.l.held q, h.r.held q⟩
set_option maxHeartbeats 8000000 in
theorem tells_any (Ab : Option Addr) (nb cb : Nat) (An : Option Addr) (nn cn : Nat) (T : Tr) (nd bk : Int) (nm s : ByteArray) (w : World) (h : TrR w Ab nb An nn T) (hv : Ok T) (hnm : nm.size = 1) (hs : s.size = 128) :
    Calls Try.prog 11 #[.agg #[.slice Ab nb cb, .slice An nn cn], .int .i64 nd, .int .i64 bk, .string nm, .string s] w fun e w' => e = .returned (.bool true) ∧ Held w w' := by
  have HT := Lib.hid h
  have HV := Lib.hid hv
  have hn12 := hv.nods
  rw [h.nn] at hn12
  have hb2 := hv.base2
  have hne : ¬ nm.size = 0 := by omega
  have M0 := Lib.hid ((Mem.start w).alloc #[.slice Ab nb cb, .slice An nn cn] 27)
  have HC := Lib.hid (create_ok' (par := nd) hv hnm)
  have HW := Lib.hid (write_ok (n := nd) (b := bk) hv hs)
  have HD := Lib.hid (delete_ok (n := nd) hv)
  have H1 := Lib.hid (fun w' (q : Held w w') => new_any Ab nb cb T.base w' (h.bs.held q) h.bnil (ok_base hv))
  have H2 := Lib.hid (fun w' (q : Held w w') => rnew_any Ab nb cb T.base w' (h.bs.held q) (ok_base hv))
  have H3 := Lib.hid (fun w' (q : Held w w') => find_any Ab nb cb An nn cn T nm w' (h.held q) (by omega) hne)
  have H4 := Lib.hid (fun w' (q : Held w w') => rfind_any Ab nb cb An nn cn T nm w' (h.held q) (by omega) hne)
  have H5 := Lib.hid (fun w' (q : Held w w') => create_any Ab nb cb An nn cn T nd nm w' (h.held q) hv hne (by omega))
  have H6 := Lib.hid (fun w' (q : Held w w') => rcreate_any Ab nb cb An nn cn T nd nm w' (h.held q) hv hne (by omega))
  have H7 := Lib.hid (fun w' (q : Held w w') => read_any Ab nb cb An nn cn T nd bk w' (h.held q) hv)
  have H8 := Lib.hid (fun w' (q : Held w w') => rread_any Ab nb cb An nn cn T nd bk w' (h.held q) hv)
  have H9 := Lib.hid (fun w' (q : Held w w') => write_any Ab nb cb An nn cn T nd bk s w' (h.held q) hv hs)
  have H10 := Lib.hid (fun w' (q : Held w w') => rwrite_any Ab nb cb An nn cn T nd bk s w' (h.held q) hv hs)
  have H11 := Lib.hid (fun w' (q : Held w w') => delete_any Ab nb cb An nn cn T nd w' (h.held q) hv)
  have H12 := Lib.hid (fun w' (q : Held w w') => rdelete_any Ab nb cb An nn cn T nd w' (h.held q) hv)
  have H13 := Lib.hid (fun w' (q : Held w w') => view2_any Ab nb cb An nn cn T nd w' (h.held q) hv)
  have H14 := Lib.hid (fun w' (q : Held w w') => rview2_any Ab nb cb An nn cn T nd w' (h.held q) hv)
  have H15 := Lib.hid (fun w' (q : Held w w') => valid_any Ab nb cb An nn cn T w' (h.held q) hv)
  have H16 := Lib.hid (fun w' (q : Held w w') => rvalid_any Ab nb cb An nn cn T w' (h.held q) hv)
  have H17 := Lib.hid (fun w' (q : Held w w') => size_any Ab nb cb An nn cn T w' (h.held q) hv)
  have H18 := Lib.hid (fun w' (q : Held w w') => rsize_any Ab nb cb An nn cn T w' (h.held q) hv)
  obtain ⟨fi, hfi⟩ : ∃ q, (findR T.nodes nm).1 = q := ⟨_, rfl⟩
  obtain ⟨fb, hfb⟩ : ∃ q, (findR T.nodes nm).2 = q := ⟨_, rfl⟩
  obtain ⟨rs, hrs⟩ : ∃ q, (readR T nd bk).1 = q := ⟨_, rfl⟩
  obtain ⟨rb, hrb⟩ : ∃ q, (readR T nd bk).2 = q := ⟨_, rfl⟩
  obtain ⟨sz, hsz⟩ : ∃ q, sizeTo T.nodes T.nodes.length = q := ⟨_, rfl⟩
  rw [hfi, hfb] at H3 H4
  rw [hrs, hrb] at H7 H8
  rw [hsz] at H17 H18
  unfold CrTo at H5
  unfold CrR at H6
  unfold WrTo at H9
  unfold WrR at H10
  unfold DlTo at H11
  unfold DnR at H12
  unfold VwX at H13 H14
  obtain ⟨ci, hci⟩ : ∃ q, createN T nd nm = q := ⟨_, rfl⟩
  obtain ⟨ce, hce⟩ : ∃ q, createE T nd nm = q := ⟨_, rfl⟩
  obtain ⟨CT, hCT⟩ : ∃ q, create T nd nm = q := ⟨_, rfl⟩
  obtain ⟨we, hwe⟩ : ∃ q, writeE T nd bk = q := ⟨_, rfl⟩
  obtain ⟨WT, hWT⟩ : ∃ q, write T nd bk s = q := ⟨_, rfl⟩
  obtain ⟨de, hde⟩ : ∃ q, deleteE T nd = q := ⟨_, rfl⟩
  obtain ⟨DT, hDT⟩ : ∃ q, delete T nd = q := ⟨_, rfl⟩
  obtain ⟨VL, hVL⟩ : ∃ q, (if hasB T nd = true then viewTo T nd T.base.length else []) = q := ⟨_, rfl⟩
  have hvl : (VL.length : Int) ≤ 1000000 := by
    rw [← hVL]
    split
    · rw [viewTo_len]; omega
    · simp
  rw [hVL] at H13 H14
  obtain ⟨hb, hhb⟩ : ∃ q, hasB T nd = q := ⟨_, rfl⟩
  rw [hci, hce, hCT] at H5 H6
  rw [hCT] at HC
  rw [hwe, hWT] at H9 H10
  rw [hWT] at HW
  rw [hde, hDT] at H11 H12
  rw [hDT] at HD
  rw [hhb] at H13 H14
  have HVL := Lib.hid hvl
  have HNB : Hid (T.base.length = nb) := h.bs.1
  clear hfi hfb hrs hrb hsz hci hce hCT hwe hWT hde hDT hVL hhb h hv hvl
  go_enter Try.func11, Try.ntmps11
  go_wp2_with fail
  go_at_call 7
  refine (H1.out _ M0.out.held).mono ?_
  rintro e w1 ⟨Ab1, cb1, An1, cn1, R1, rfl, hT1⟩
  have h1 := hT1.held
  have k1 := Lib.hid (h1.step ((Held.refl w1).alloc (.cells #[.slice Ab1 nb cb1, .slice An1 0 cn1] 27)))
  have M1 := Lib.hid ((M0.out.keep h1).alloc #[.slice Ab1 nb cb1, .slice An1 0 cn1] 27)
  have L1_1 := Lib.hid ((hT1.tr).held ((Held.refl w1).alloc (.cells #[.slice Ab1 nb cb1, .slice An1 0 cn1] 27)))
  clear hT1
  clear h1 k1
  obtain ⟨⟨a0, a1⟩, _, alt⟩ := M1.out.box2 0 rfl
  go_wp2_with fail
  go_at_call 27
  refine (H2.out _ M1.out.held).mono ?_
  rintro e w2 ⟨Ab2, cb2, An2, cn2, R2, rfl, hT2⟩
  have h2 := hT2.held
  have k2 := Lib.hid (h2.step ((Held.refl w2).alloc (.cells #[.slice Ab2 nb cb2, .slice An2 0 cn2] 27)))
  have M2 := Lib.hid ((M1.out.keep h2).alloc #[.slice Ab2 nb cb2, .slice An2 0 cn2] 27)
  have L1_2 := Lib.hid (L1_1.out.held k2.out)
  clear L1_1
  have B1_2 := Lib.hid (Two.mk L1_2.out ((hT2.tr).held ((Held.refl w2).alloc (.cells #[.slice Ab2 nb cb2, .slice An2 0 cn2] 27))))
  clear L1_2
  clear hT2
  clear h2 k2 a0 a1 alt
  obtain ⟨⟨a0, a1⟩, _, alt⟩ := M2.out.box2 0 rfl
  clear M1
  go_wp2_with fail
  go_at_call 20
  refine (H3.out _ M2.out.held).mono ?_
  rintro e w3 ⟨rfl, h3⟩
  have k3 := Lib.hid h3
  have M3 := Lib.hid (M2.out.keep h3)
  have B1_3 := Lib.hid (B1_2.out.held k3.out)
  clear B1_2
  clear h3 k3 a0 a1 alt
  obtain ⟨⟨a0, a1⟩, _, alt⟩ := M3.out.box2 0 rfl
  clear M2
  go_wp2_with fail
  go_at_call 28
  refine (H4.out _ M3.out.held).mono ?_
  rintro e w4 ⟨rfl, h4⟩
  have k4 := Lib.hid h4
  have M4 := Lib.hid (M3.out.keep h4)
  have B1_4 := Lib.hid (B1_3.out.held k4.out)
  clear B1_3
  clear h4 k4 a0 a1 alt
  obtain ⟨⟨a0, a1⟩, _, alt⟩ := M4.out.box2 0 rfl
  clear M3
  go_wp2_with fail
  go_at_call 17
  refine (H5.out _ M4.out.held).mono ?_
  rintro e w5 ⟨Ab5, cb5, An5, nn5, cn5, R5, rfl, hT5⟩
  have h5 := hT5.held
  have k5 := Lib.hid (h5.step ((Held.refl w5).alloc (.cells #[.slice Ab5 nb cb5, .slice An5 nn5 cn5] 27)))
  have M5 := Lib.hid ((M4.out.keep h5).alloc #[.slice Ab5 nb cb5, .slice An5 nn5 cn5] 27)
  have B1_5 := Lib.hid (B1_4.out.held k5.out)
  clear B1_4
  have L5_5 := Lib.hid ((hT5.tr).held ((Held.refl w5).alloc (.cells #[.slice Ab5 nb cb5, .slice An5 nn5 cn5] 27)))
  clear hT5
  clear h5 k5 a0 a1 alt
  obtain ⟨⟨a0, a1⟩, _, alt⟩ := M5.out.box2 0 rfl
  clear M4
  go_wp2_with fail
  go_at_call 29
  refine (H6.out _ M5.out.held).mono ?_
  rintro e w6 ⟨Ab6, nb6, cb6, An6, nn6, cn6, rfl, hT6, h6⟩
  have k6 := Lib.hid (h6.step ((Held.refl w6).alloc (.cells #[.slice Ab6 nb6 cb6, .slice An6 nn6 cn6] 27)))
  have M6 := Lib.hid ((M5.out.keep h6).alloc #[.slice Ab6 nb6 cb6, .slice An6 nn6 cn6] 27)
  have B1_6 := Lib.hid (B1_5.out.held k6.out)
  clear B1_5
  have L5_6 := Lib.hid (L5_5.out.held k6.out)
  clear L5_5
  have B5_6 := Lib.hid (Two.mk L5_6.out ((hT6).held ((Held.refl w6).alloc (.cells #[.slice Ab6 nb6 cb6, .slice An6 nn6 cn6] 27))))
  clear L5_6
  clear hT6
  clear h6 k6 a0 a1 alt
  obtain ⟨⟨a0, a1⟩, _, alt⟩ := M6.out.box2 0 rfl
  clear M5
  go_wp2_with fail
  go_at_call 10
  refine (H7.out _ M6.out.held).mono ?_
  rintro e w7 ⟨rfl, h7⟩
  have k7 := Lib.hid h7
  have M7 := Lib.hid (M6.out.keep h7)
  have B1_7 := Lib.hid (B1_6.out.held k7.out)
  clear B1_6
  have B5_7 := Lib.hid (B5_6.out.held k7.out)
  clear B5_6
  clear h7 k7 a0 a1 alt
  obtain ⟨⟨a0, a1⟩, _, alt⟩ := M7.out.box2 0 rfl
  clear M6
  go_wp2_with fail
  go_at_call 30
  refine (H8.out _ M7.out.held).mono ?_
  rintro e w8 ⟨rfl, h8⟩
  have k8 := Lib.hid h8
  have M8 := Lib.hid (M7.out.keep h8)
  have B1_8 := Lib.hid (B1_7.out.held k8.out)
  clear B1_7
  have B5_8 := Lib.hid (B5_7.out.held k8.out)
  clear B5_7
  clear h8 k8 a0 a1 alt
  obtain ⟨⟨a0, a1⟩, _, alt⟩ := M8.out.box2 0 rfl
  clear M7
  go_wp2_with fail
  go_at_call 18
  refine (H9.out _ M8.out.held).mono ?_
  rintro e w9 ⟨Ab9, cb9, An9, cn9, R9, rfl, hT9⟩
  have h9 := hT9.held
  have k9 := Lib.hid (h9.step ((Held.refl w9).alloc (.cells #[.slice Ab9 nb cb9, .slice An9 nn cn9] 27)))
  have M9 := Lib.hid ((M8.out.keep h9).alloc #[.slice Ab9 nb cb9, .slice An9 nn cn9] 27)
  have B1_9 := Lib.hid (B1_8.out.held k9.out)
  clear B1_8
  have B5_9 := Lib.hid (B5_8.out.held k9.out)
  clear B5_8
  have L9_9 := Lib.hid ((hT9.tr).held ((Held.refl w9).alloc (.cells #[.slice Ab9 nb cb9, .slice An9 nn cn9] 27)))
  clear hT9
  clear h9 k9 a0 a1 alt
  obtain ⟨⟨a0, a1⟩, _, alt⟩ := M9.out.box2 0 rfl
  clear M8
  go_wp2_with fail
  go_at_call 31
  refine (H10.out _ M9.out.held).mono ?_
  rintro e w10 ⟨Ab10, nb10, cb10, An10, nn10, cn10, rfl, hT10, h10⟩
  have k10 := Lib.hid (h10.step ((Held.refl w10).alloc (.cells #[.slice Ab10 nb10 cb10, .slice An10 nn10 cn10] 27)))
  have M10 := Lib.hid ((M9.out.keep h10).alloc #[.slice Ab10 nb10 cb10, .slice An10 nn10 cn10] 27)
  have B1_10 := Lib.hid (B1_9.out.held k10.out)
  clear B1_9
  have B5_10 := Lib.hid (B5_9.out.held k10.out)
  clear B5_9
  have L9_10 := Lib.hid (L9_9.out.held k10.out)
  clear L9_9
  have B9_10 := Lib.hid (Two.mk L9_10.out ((hT10).held ((Held.refl w10).alloc (.cells #[.slice Ab10 nb10 cb10, .slice An10 nn10 cn10] 27))))
  clear L9_10
  clear hT10
  clear h10 k10 a0 a1 alt
  obtain ⟨⟨a0, a1⟩, _, alt⟩ := M10.out.box2 0 rfl
  clear M9
  go_wp2_with fail
  go_at_call 19
  refine (H11.out _ M10.out.held).mono ?_
  rintro e w11 ⟨Ab11, cb11, An11, cn11, R11, rfl, hT11⟩
  have h11 := hT11.held
  have k11 := Lib.hid (h11.step ((Held.refl w11).alloc (.cells #[.slice Ab11 nb cb11, .slice An11 nn cn11] 27)))
  have M11 := Lib.hid ((M10.out.keep h11).alloc #[.slice Ab11 nb cb11, .slice An11 nn cn11] 27)
  have B1_11 := Lib.hid (B1_10.out.held k11.out)
  clear B1_10
  have B5_11 := Lib.hid (B5_10.out.held k11.out)
  clear B5_10
  have B9_11 := Lib.hid (B9_10.out.held k11.out)
  clear B9_10
  have L11_11 := Lib.hid ((hT11.tr).held ((Held.refl w11).alloc (.cells #[.slice Ab11 nb cb11, .slice An11 nn cn11] 27)))
  clear hT11
  clear h11 k11 a0 a1 alt
  obtain ⟨⟨a0, a1⟩, _, alt⟩ := M11.out.box2 0 rfl
  clear M10
  go_wp2_with fail
  go_at_call 32
  refine (H12.out _ M11.out.held).mono ?_
  rintro e w12 ⟨Ab12, nb12, cb12, An12, nn12, cn12, rfl, hT12, h12⟩
  have k12 := Lib.hid (h12.step ((Held.refl w12).alloc (.cells #[.slice Ab12 nb12 cb12, .slice An12 nn12 cn12] 27)))
  have M12 := Lib.hid ((M11.out.keep h12).alloc #[.slice Ab12 nb12 cb12, .slice An12 nn12 cn12] 27)
  have B1_12 := Lib.hid (B1_11.out.held k12.out)
  clear B1_11
  have B5_12 := Lib.hid (B5_11.out.held k12.out)
  clear B5_11
  have B9_12 := Lib.hid (B9_11.out.held k12.out)
  clear B9_11
  have L11_12 := Lib.hid (L11_11.out.held k12.out)
  clear L11_11
  have B11_12 := Lib.hid (Two.mk L11_12.out ((hT12).held ((Held.refl w12).alloc (.cells #[.slice Ab12 nb12 cb12, .slice An12 nn12 cn12] 27))))
  clear L11_12
  clear hT12
  clear h12 k12 a0 a1 alt
  obtain ⟨⟨a0, a1⟩, _, alt⟩ := M12.out.box2 0 rfl
  clear M11
  go_wp2_with fail
  go_at_call 15
  refine (H13.out _ M12.out.held).mono ?_
  rintro e w13 ⟨A13, m13, c13, rfl, hS13, h13⟩
  have k13 := Lib.hid h13
  have M13 := Lib.hid (M12.out.keep h13)
  have B1_13 := Lib.hid (B1_12.out.held k13.out)
  clear B1_12
  have B5_13 := Lib.hid (B5_12.out.held k13.out)
  clear B5_12
  have B9_13 := Lib.hid (B9_12.out.held k13.out)
  clear B9_12
  have B11_13 := Lib.hid (B11_12.out.held k13.out)
  clear B11_12
  have V13_13 := Lib.hid hS13
  clear hS13
  clear h13 k13 a0 a1 alt
  obtain ⟨⟨a0, a1⟩, _, alt⟩ := M13.out.box2 0 rfl
  clear M12
  go_wp2_with fail
  go_at_call 33
  refine (H14.out _ M13.out.held).mono ?_
  rintro e w14 ⟨A14, m14, c14, rfl, hS14, h14⟩
  have k14 := Lib.hid h14
  have M14 := Lib.hid (M13.out.keep h14)
  have B1_14 := Lib.hid (B1_13.out.held k14.out)
  clear B1_13
  have B5_14 := Lib.hid (B5_13.out.held k14.out)
  clear B5_13
  have B9_14 := Lib.hid (B9_13.out.held k14.out)
  clear B9_13
  have B11_14 := Lib.hid (B11_13.out.held k14.out)
  clear B11_13
  have V13_14 := Lib.hid (V13_13.out.held k14.out)
  clear V13_13
  have V14_14 := Lib.hid hS14
  clear hS14
  clear h14 k14 a0 a1 alt
  obtain ⟨⟨a0, a1⟩, _, alt⟩ := M14.out.box2 0 rfl
  clear M13
  go_wp2_with fail
  obtain ⟨⟨b0, b1⟩, _, blt⟩ := M14.out.box2 1 rfl
  obtain ⟨⟨c0, c1⟩, _, clt⟩ := M14.out.box2 2 rfl
  have r0 := cell_regrown a0
  have r1 := cell_regrown a1
  have r2 := cell_regrown b0
  have r3 := cell_regrown b1
  have r4 := cell_regrown c0
  have r5 := cell_regrown c1
  have cA := Lib.hid fun dd os => Calls.regrown_of (d := dd) (os := os) (H15.out (grow (redrawn w14 dd) os) (M14.out.held.step (below_regrown w14 dd os)))
  have cB := Lib.hid fun dd os => Calls.regrown_of (d := dd) (os := os) (H16.out (grow (redrawn w14 dd) os) (M14.out.held.step (below_regrown w14 dd os)))
  have cC := Lib.hid fun dd os => Calls.regrown_of (d := dd) (os := os) (H17.out (grow (redrawn w14 dd) os) (M14.out.held.step (below_regrown w14 dd os)))
  have cD := Lib.hid fun dd os => Calls.regrown_of (d := dd) (os := os) (H18.out (grow (redrawn w14 dd) os) (M14.out.held.step (below_regrown w14 dd os)))
  have cE := Lib.hid fun dd os => Calls.regrown_of (d := dd) (os := os) (rsameT_any Ab1 nb cb1 An1 0 cn1 Ab2 nb cb2 An2 0 cn2 ⟨T.base, []⟩ (grow (redrawn w14 dd) os) (B1_14.out.l.held (below_regrown w14 dd os)) (B1_14.out.r.held (below_regrown w14 dd os)) (ok_base HV.out))
  have q1 : (sz != sz) = false := by simp
  have q2 : (fi != fi) = false := by simp
  have q3 : (fb != fb) = false := by simp
  have q4 : (true != true) = false := rfl
  clear a0 a1 alt b0 b1 blt c0 c1 clt
  refine wp_region_quiet_below (by kernel_rfl) (by kernel_rfl) ?_
  repeat (go_big_quiet_step (first | (go_at_call 14; exact cA.out _ _) | (go_at_call 34; exact cB.out _ _) | (go_at_call 21; exact cC.out _ _) | (go_at_call 35; exact cD.out _ _) | (go_at_call 36; exact cE.out _ _)))
  refine wpQuiet_nil ?_
  intro w15 hw'
  obtain ⟨⟨dq, osq⟩, hw''⟩ := hw'
  have h15 : Held w14 w15 := by rw [hw'']; exact below_regrown _ dq osq
  clear hw'' cA cB cC cD cE r0 r1 r2 r3 r4 r5
  have M15 := Lib.hid (M14.out.keep h15)
  have B5 := Lib.hid (B5_14.out.held h15)
  have B9 := Lib.hid (B9_14.out.held h15)
  have B11 := Lib.hid (B11_14.out.held h15)
  have V13 := Lib.hid (V13_14.out.held h15)
  have V14 := Lib.hid (V14_14.out.held h15)
  clear B1_14 B5_14 B9_14 B11_14 V13_14 V14_14 M14 h15
  obtain ⟨⟨a0, a1⟩, _, alt⟩ := M15.out.box2 3 rfl
  obtain ⟨⟨b0, b1⟩, _, blt⟩ := M15.out.box2 4 rfl
  go_wp2_with fail
  have e1 : (ci == ci) = true := by simp
  have e2 : (ce == ce) = true := by simp
  have e3 : (rs.toList == rs.toList) = true := by simp
  have e4 : (rb == rb) = true := by simp
  have e5 : (we == we) = true := by simp
  have e6 : (de == de) = true := by simp
  have e7 : (hb == hb) = true := by simp
  refine (rsameT_any Ab5 nb cb5 An5 nn5 cn5 Ab6 nb6 cb6 An6 nn6 cn6 CT w15 B5.out.l B5.out.r HC.out).mono ?_
  rintro e w16 ⟨rfl, h16⟩
  have M16 := Lib.hid (M15.out.keep h16)
  have B9' := Lib.hid (B9.out.held h16)
  have B11' := Lib.hid (B11.out.held h16)
  have V13' := Lib.hid (V13.out.held h16)
  have V14' := Lib.hid (V14.out.held h16)
  clear B9 B11 V13 V14 B5 h16 a0 a1 alt b0 b1 blt M15
  obtain ⟨⟨a0, a1⟩, _, alt⟩ := M16.out.box2 5 rfl
  obtain ⟨⟨b0, b1⟩, _, blt⟩ := M16.out.box2 6 rfl
  go_wp2_with fail
  refine (rsameT_any Ab9 nb cb9 An9 nn cn9 Ab10 nb10 cb10 An10 nn10 cn10 WT w16 B9'.out.l B9'.out.r HW.out).mono ?_
  rintro e w17 ⟨rfl, h17⟩
  have M17 := Lib.hid (M16.out.keep h17)
  have B11 := Lib.hid (B11'.out.held h17)
  have V13 := Lib.hid (V13'.out.held h17)
  have V14 := Lib.hid (V14'.out.held h17)
  clear B9' B11' V13' V14' h17 a0 a1 alt b0 b1 blt M16
  obtain ⟨⟨a0, a1⟩, _, alt⟩ := M17.out.box2 7 rfl
  obtain ⟨⟨b0, b1⟩, _, blt⟩ := M17.out.box2 8 rfl
  go_wp2_with fail
  refine (rsameT_any Ab11 nb cb11 An11 nn cn11 Ab12 nb12 cb12 An12 nn12 cn12 DT w17 B11.out.l B11.out.r HD.out).mono ?_
  rintro e w18 ⟨rfl, h18⟩
  have M18 := Lib.hid (M17.out.keep h18)
  have V13' := Lib.hid (V13.out.held h18)
  have V14' := Lib.hid (V14.out.held h18)
  clear B11 V13 V14 h18 a0 a1 alt b0 b1 blt M17
  go_wp2_with fail
  refine (rsameS_any A13 m13 c13 A14 m14 c14 VL w18 V13'.out V14'.out HVL.out).mono ?_
  rintro e w19 ⟨rfl, h19⟩
  have M19 := Lib.hid (M18.out.keep h19)
  go_wp2
  go_ret
  exact ⟨rfl, M19.out.held⟩
end Sn
end Go.Proofs.Ytncgihbnfmpdbaa
