/-
  The law SnapKeeps, walked (chapter 41).
-/
import Derived.Test.YtncgihbnfmpdbaaSnAh
import Derived.Deep.DeepCutAuto
set_option linter.unusedVariables false
set_option linter.unusedSimpArgs false
set_option maxRecDepth 100000
namespace Go.Proofs.Ytncgihbnfmpdbaa
open Go.RowKit Go.BigFrame
namespace Sn
/-- What the law has at the head of its loop: the tree in its box, the views. -/
def KeepIn (B : List ByteArray) (w : World) (tb : Nat) (A0 : Option Addr) (cap0 : Nat) (v : Value) (wr : World) : Prop :=
  ∃ T V VR Ab nb cb An nn cn R Av nv cv, Ok T ∧ Vw B T V ∧ NrsE R T.nodes ∧ VrE VR V ∧ v = .slice Av nv cv ∧ VR.length = nv ∧ Mem w wr [.box tb #[.slice Ab nb cb, .slice An nn cn] 27, .row 9 1 stC w.heap.size (.slice A0 4 cap0) B, .row 24 1 vrC w.heap.size (.slice Av nv cv) VR, Ck.many (tRows w Ab nb cb An nn cn T.base R T.nodes), Ck.many (vRows w VR V)]
/-- Behind an act: the new tree in a box of its own. -/
def KeepMid (B : List ByteArray) (w : World) (tb t2 : Nat) (A0 : Option Addr) (cap0 : Nat) (OT : Tr) (Ab2 : Option Addr) (nb2 cb2 : Nat) (An2 : Option Addr) (nn2 cn2 : Nat) (R2 : List Nr) (v : Value) (wr : World) : Prop :=
  ∃ V VR Ab nb cb An nn cn Av nv cv, Vw B OT V ∧ VrE VR V ∧ v = .slice Av nv cv ∧ VR.length = nv ∧ Mem w wr [.box tb #[.slice Ab nb cb, .slice An nn cn] 27, .row 9 1 stC w.heap.size (.slice A0 4 cap0) B, .row 24 1 vrC w.heap.size (.slice Av nv cv) VR, .box t2 #[.slice Ab2 nb2 cb2, .slice An2 nn2 cn2] 27, Ck.many (tRows w Ab2 nb2 cb2 An2 nn2 cn2 OT.base R2 OT.nodes), Ck.many (vRows w VR V)]
theorem many_tree {W w : World} {H : List Ck} {i : Nat} {Ab : Option Addr} {nb cb : Nat} {An : Option Addr} {nn cn : Nat} {T : Tr} {R : List Nr} (M : Mem W w H) (hi : H[i]? = some (Ck.many (tRows W Ab nb cb An nn cn T.base R T.nodes))) (h : NrsE R T.nodes) : TrR w Ab nb An nn T := by
  have hm := M.ok _ (List.mem_of_getElem? hi)
  refine TrM.tr (W := W) (w := w) (cb := cb) (cn := cn) (R := R) ⟨⟨M.held, fun c hc => ⟨hm.1.1 c hc, fun b hb => hm.2 b (List.mem_flatMap.2 ⟨c, hc, hb⟩)⟩, hm.1.2⟩, h⟩
theorem keep_push {W w : World} {a b c d e : Ck} {VR : List Vr} {V : List (List ByteArray)} {r : Vr} {L : List ByteArray} (hl : VR.length = V.length) (M : Mem W w [a, b, c, d, e, Ck.many (vRows W VR V), vRow W r L]) : Mem W w [a, b, c, d, e, Ck.many (vRows W (VR ++ [r]) (V ++ [L]))] := by
  have h1 : Mem W w ([a, b, c, d, e, vRow W r L] ++ [Ck.many (vRows W VR V)]) := M.sel [0, 1, 2, 3, 4, 6, 5] (by decide)
  have h2 := h1.unpack
  have h3 : Mem W w ([a, b, c, d, e] ++ (vRows W VR V ++ [vRow W r L])) := h2.permut (by
    refine List.Perm.append_left [a, b, c, d, e] ?_
    exact List.perm_append_comm (l₁ := [vRow W r L]))
  rw [← vRows_snoc W hl] at h3
  exact Mem.pack (H := [a, b, c, d, e]) h3
/-- A view's slice, and what it holds. -/
theorem keep_view {W w : World} {a b c d e : Ck} {VR : List Vr} {V : List (List ByteArray)} {p : Nat} {r : Vr} {L : List ByteArray} (hr : VR[p]? = some r) (hL : V[p]? = some L) (M : Mem W w [a, b, c, d, e, Ck.many (vRows W VR V)]) : Own 9 1 stC W.heap.size w (.slice r.A r.n r.cap) L :=
  (Mem.unpack (H := [a, b, c, d, e]) M).row (p + 5) (by exact vRows_at hr hL)
theorem keep_view4 {W w : World} {a b c d : Ck} {VR : List Vr} {V : List (List ByteArray)} {p : Nat} {r : Vr} {L : List ByteArray} (hr : VR[p]? = some r) (hL : V[p]? = some L) (M : Mem W w [a, b, c, d, Ck.many (vRows W VR V)]) : Own 9 1 stC W.heap.size w (.slice r.A r.n r.cap) L :=
  (Mem.unpack (H := [a, b, c, d]) M).row (p + 4) (by exact vRows_at hr hL)
theorem keep_set {W w : World} {a b c d e : Ck} {VR : List Vr} {V : List (List ByteArray)} {p k : Nat} {g n cap : Nat} {L : List ByteArray} (hr : VR[p]? = some ⟨some ⟨g, 0, none⟩, n, cap⟩) (hL : V[p]? = some L) (hk : k < L.length) (s : ByteArray) (M : Mem W w [a, b, c, d, e, Ck.many (vRows W VR V)]) :
    Mem W (w.setCell ⟨g, k, none⟩ (.string s)) [a, b, c, d, e, Ck.many (vRows W VR (V.set p (L.set k s)))] := by
  have h1 := (Mem.unpack (H := [a, b, c, d, e]) M).putAt (p + 5) (k := k) (y := L[k]) (x := s) (u := .string s) (vRows_at hr hL) stC_len (List.getElem?_eq_getElem hk) (j := 0) (by decide) rfl
  rw [Nat.mul_one, Nat.add_zero] at h1
  have h2 : Mem W (w.setCell ⟨g, k, none⟩ (.string s)) ([a, b, c, d, e] ++ (vRows W VR V).set p (vRow W ⟨some ⟨g, 0, none⟩, n, cap⟩ (L.set k s))) := h1
  rw [vRows_set hr hL] at h2
  exact Mem.pack (H := [a, b, c, d, e]) h2
set_option maxHeartbeats 16000000 in
theorem keeps_any (A : Option Addr) (n cap : Nat) (L : List Int) (w : World) (h : Sl 1 inC w A n L) (hn : (n : Int) ≤ 9223372036854775807) :
    Calls Try.prog 5 #[.slice A n cap] w fun e w' => e = .returned (.bool true) ∧ Held w w' := by
  have HAW := Lib.hid (fun w' => awake_any w')
  have HL := Lib.hid h
  by_cases g1 : (50 : Int) < n
  · go_enter Try.func5, Try.ntmps5
    go_wp2_with (go_at_call 6; refine (HAW.out _).mono ?_; rintro e w1 ⟨rfl, h1⟩)
    go_ret
    exact ⟨rfl, h1⟩
  have hbl := blocksTo_len 1 4
  have HBL := Lib.hid (fun w' => blocks_ex 1 w' (by decide))
  have HO := Lib.hid blocks_ok
  obtain ⟨B, hB⟩ : ∃ q, blocksTo 1 4 = q := ⟨_, rfl⟩
  rw [hB] at HBL hbl HO
  have HB4 := Lib.hid hbl
  clear hB h
  go_enter Try.func5, Try.ntmps5
  go_wp2_with fail
  refine (HBL.out _).mono ?_
  rintro e w1 ⟨A0, cap0, rfl, hc0, ho0, h1⟩
  rw [hbl] at ho0 hc0 ⊢
  have M1 := Lib.hid ((Mem.start w).own h1 ho0)
  clear h1 ho0
  go_wp2_with fail
  refine (new_any A0 4 cap0 B _ (Own.reads stC_len (M1.out.row 0 rfl)).1 (fun e => own_nil (e ▸ (M1.out.row 0 rfl))) HO.out).mono ?_
  rintro e w2 ⟨Ab, cb, An, cn, R, rfl, hT⟩
  obtain ⟨tb, htb⟩ : ∃ q, w2.heap.size = q := ⟨_, rfl⟩
  have HE := Lib.hid hT.eq
  have M2 := Lib.hid ((TrM.join M1.out hT).pack.alloc' htb #[.slice Ab 4 cb, .slice An 0 cn] 27)
  clear hT M1
  go_wp2_with fail
  have M3 := Lib.hid ((M2.out.emptyRow (e := 24) (s := 1) (f := vrC) (b := tb + 1) (by rw [← htb]; simp)) |>.sel [2, 0, 3, 1] (by decide))
  have M4 := Lib.hid (Mem.pack (H := [_, _, _, _]) (l := vRows w [] []) M3.out)
  go_wp2
  have IB : Hid (KeepIn B w tb A0 cap0 (.slice (some ⟨tb + 1, 0, none⟩) 0 0) ((w2.alloc (.cells #[.slice Ab 4 cb, .slice An 0 cn] 27)).alloc (.cells #[] 24))) := ⟨⟨B, []⟩, [], [], Ab, 4, cb, An, 0, cn, R, _, 0, 0, HO.out, vw_new HB4.out, HE.out, ⟨rfl, fun i r L hr => by cases hr⟩, rfl, rfl, M4.out⟩
  clear M2 M3 M4 HE htb
  go_loopw [6, 7] (fun v i wr => ∃ k : Nat, i = .int .i64 k ∧ k ≤ n ∧ KeepIn B w tb A0 cap0 v wr) (fun _ i _ => n - (intOf i).toNat)
  case atStart => exact ⟨0, rfl, Nat.zero_le _, IB.out⟩
  case round =>
    obtain ⟨k, rfl, hk, T, V, VR, Ab, nb, cb, An, nn, cn, R, Av, nv, cv, hok, hvw, he, hve, rfl, hvl, hM⟩ := hrel
    have HE := Lib.hid he
    have M := Lib.hid hM
    have HOK := Lib.hid hok
    have HVW := Lib.hid hvw
    have HVE := Lib.hid hve
    have HVL := Lib.hid hvl
    clear he hM hok hvw hve IB hvl
    obtain ⟨⟨p0, p1⟩, ⟨pf0, pf1⟩, plt⟩ := M.out.box2 0 rfl
    by_cases hlt : (k : Int) < n
    · obtain ⟨b, off, x, rfl, lb, hx, x0⟩ := in_at HL.out M.out.held (k := k) (by omega)
      have hlb := lt_of_cell x0
      simp only at hlb
      have s1 : (0 : Int) ≤ k := by omega
      have HTR := Lib.hid (many_tree M.out (i := 3) rfl HE.out)
      have HA := Lib.hid (fun w' (q : Held wr w') => act_any Ab nb cb An nn cn T x w' (HTR.out.held q) HOK.out)
      have HOK2 := Lib.hid (act_ok HOK.out (Mk.mix x 71))
      have HAC := Lib.hid (acts HOK.out HVW.out (Mk.mix x 71))
      obtain ⟨O, hO⟩ : ∃ q, actR T (Mk.mix x 71) = q := ⟨_, rfl⟩
      rw [hO] at HA HOK2 HAC
      obtain ⟨OT, Ok, On, Ob, Od, Oe⟩ := O
      unfold ActTo at HA
      simp only at HA HOK2
      clear hO hx
      have n2p : ¬ tb = wr.heap.size := by omega
      have n2b : ¬ b = wr.heap.size := by omega
      have HZ := Lib.hid (M.out.alloc #[.slice none 0 0, .slice none 0 0] 27)
      go_wp2_with fail
      go_cut [8, 9, 10, 11, 12, 13] from 34 to 168 (fun xp kd nd bl da er wx => kd = .int .i64 Ok ∧ nd = .int .i64 On ∧ bl = .int .i64 Ob ∧ da = .string Od ∧ er = .int .i64 Oe ∧ ∃ t2 Ab2 nb2 cb2 An2 nn2 cn2 R2, xp = .pointer (some ⟨t2, 0, none⟩) ∧ NrsE R2 OT.nodes ∧ Mem w wx [.box tb #[.slice Ab nb cb, .slice An nn cn] 27, .row 9 1 stC w.heap.size (.slice A0 4 cap0) B, .row 24 1 vrC w.heap.size (.slice Av nv cv) VR, .box t2 #[.slice Ab2 nb2 cb2, .slice An2 nn2 cn2] 27, Ck.many (tRows w Ab2 nb2 cb2 An2 nn2 cn2 OT.base R2 OT.nodes), Ck.many (vRows w VR V)])
      case first =>
        go_region_with (first
          | (go_at_call 9; with_reducible refine (HA.out _ (Held.refl _).drew).mono ?_; rintro e w6 ⟨Ab2, nb2, cb2, An2, nn2, cn2, R2, rfl, hT⟩; have HT := Lib.hid hT.eq; have M6 := Lib.hid ((((TrM.join M.out.drew hT).pack).alloc #[.slice Ab2 nb2 cb2, .slice An2 nn2 cn2] 27).sel [0, 1, 2, 6, 5, 4] (by decide)); clear hT)
          | (go_at_call 9; with_reducible refine (HA.out _ ((Held.refl _).alloc (.cells #[.slice none 0 0, .slice none 0 0] 27)).drew).mono ?_; rintro e w6 ⟨Ab2, nb2, cb2, An2, nn2, cn2, R2, rfl, hT⟩; have HT := Lib.hid hT.eq; have M5 := Lib.hid (TrM.join HZ.out.drew hT).pack; obtain ⟨⟨t0, t1⟩, ⟨tf0, tf1⟩, tlt⟩ := M5.out.box2 5 rfl; have M6 := Lib.hid (((M5.out.put 5 rfl 0 (.slice Ab2 nb2 cb2)).put 5 rfl 1 (.slice An2 nn2 cn2)).sel [0, 1, 2, 5, 6, 4] (by decide)); clear hT M5))
        all_goals
          go_wp2
          go_meet
          case rel => exact ⟨rfl, rfl, rfl, rfl, rfl, _, _, _, _, _, _, _, _, rfl, HT.out, M6.out⟩
      case rest =>
        obtain ⟨rfl, rfl, rfl, rfl, rfl, t2, Ab2, nb2, cb2, An2, nn2, cn2, R2, rfl, he2, hM2⟩ := hcut
        have HE2 := Lib.hid he2
        have M2 := Lib.hid hM2
        clear he2 hM2 HA HZ HTR p0 p1 pf0 pf1 plt x0 hlb n2p n2b HE M
        obtain ⟨⟨q0, q1⟩, ⟨qf0, qf1⟩, qlt⟩ := M2.out.box2 3 rfl
        have HTR2 := Lib.hid (many_tree M2.out (i := 4) rfl HE2.out)
        have hvl2 := HVE.out.1.symm.trans HVL.out
        have HVL2 := Lib.hid hvl2
        clear hvl2
        go_upto_if 54 with fail
        go_cut [6] from 53 to 110 (fun v wx => KeepMid B w tb t2 A0 cap0 OT Ab2 nb2 cb2 An2 nn2 cn2 R2 v wx)
        case first =>
          have hac := HAC.out
          have hvl2 := HVL2.out
          have hve1 := HVE.out.1
          clear HAC
          cases hac with
          | bad hT he =>
            have hb : (Oe == 0) = false := by simpa using he
            have HKM : Hid (KeepMid B w tb t2 A0 cap0 OT Ab2 nb2 cb2 An2 nn2 cn2 R2 (.slice Av nv cv) wc) := ⟨V, VR, Ab, nb, cb, An, nn, cn, Av, nv, cv, hT, HVE.out, rfl, HVL.out, M2.out⟩
            clear hT he hvl2 hve1
            go_wp2
            go_meet
            case rel => exact HKM.out
          | gone he hk hT =>
            simp only at he hk hT
            subst he hk
            have HKM : Hid (KeepMid B w tb t2 A0 cap0 OT Ab2 nb2 cb2 An2 nn2 cn2 R2 (.slice Av nv cv) wc) := ⟨V, VR, Ab, nb, cb, An, nn, cn, Av, nv, cv, hT, HVE.out, rfl, HVL.out, M2.out⟩
            clear hT hvl2 hve1
            go_wp2
            go_meet
            case rel => exact HKM.out
          | base x he hk hn hx hp hT =>
            simp only at he hk hn hx hT
            rw [hvl2] at hn hx
            subst he hk hn
            have hnn2 : nv < nn2 := by rw [← HTR2.out.nn]; exact (List.getElem?_eq_some_iff.1 hx).1
            have hnn3 : (nv : Int) < (nn2 : Int) := by omega
            obtain ⟨b9, off9, x9, A9, dn9, dcap9, rfl, lb9, hx9, y0, y1, y2, y3, _⟩ := HTR2.out.at_ (Held.refl wc) (k := nv) hnn2
            obtain rfl : x9 = x := by rw [hx] at hx9; injection hx9 with hx9; exact hx9.symm
            have hlb9 := lt_of_cell y0
            simp only at hlb9
            obtain ⟨g0, c0, e0, hc00⟩ := own_blk (M2.out.row 1 rfl) (by rw [HB4.out]; decide)
            rw [HB4.out] at e0
            injection e0 with e0 e1 e2
            subst e0 e2
            have HT := Lib.hid hT
            have HSL := Lib.hid (fun w' (q : Held wc w') => Sg.sl_news stC_len (by decide) ((Own.reads stC_len (M2.out.row 1 rfl)).1.held q))
            have M3 := Lib.hid (M2.out.emptyRow (e := 9) (s := 1) (f := stC) rfl)
            have hnv50 : (nv : Int) ≤ 1000000 := by have := HOK2.out.nods; have := HTR2.out.nn; omega
            clear hx hx9 hT hvl2 hve1 e1 hc00 y0 y2 y3
            go_wp2_with (first
              | (at_builtin; refine Mem.wp_apps M3.out 6 rfl rfl _ _ _ rfl _ 16 Try.underlying24 info_st rfl (by decide) stC_len stC_one B ⟨g0, 0, none⟩ 4 cap0 rfl rfl HB4.out (by decide) (HSL.out _ ((Held.refl wc).alloc _)) 0 rfl (by omega) (by decide) ?_; intro g4 cp4 w4 M4; have M5 := Lib.hid M4; clear M4)
              | (at_builtin; refine Mem.wp_app (M5.out.skip _) 2 rfl rfl _ _ _ rfl _ 24 Try.underlying47 info_vr rfl (by decide) vrC_len vrC_one ⟨some ⟨g4, 0, none⟩, 4, cp4⟩ ⟨w4.heap.size, 0, none⟩ 1 rfl rfl (cells_new _ (by simp) _ _) nv HVL.out (by omega) (by decide) ?_; intro g6 cp6 w6 M6; have M7 := Lib.hid M6; clear M6))
            go_meet
            case rel => exact ⟨V ++ [B], VR ++ [⟨some ⟨g4, 0, none⟩, 4, cp4⟩], Ab, nb, cb, An, nn, cn, _, nv + 1, cp6, HT.out, HVE.out.snoc (by exact HB4.out.symm), rfl, by rw [List.length_append, HVL.out]; rfl, keep_push (r := ⟨some ⟨g4, 0, none⟩, 4, cp4⟩) (L := B) HVE.out.1 M7.out⟩
          | node x p L' he hk hn hx hp hL hT =>
            simp only at he hk hn hx hT
            rw [hvl2] at hn hx
            subst he hk hn
            have hnn2 : nv < nn2 := by rw [← HTR2.out.nn]; exact (List.getElem?_eq_some_iff.1 hx).1
            have hnn3 : (nv : Int) < (nn2 : Int) := by omega
            have hpv : p < nv := by rw [← hvl2]; exact (List.getElem?_eq_some_iff.1 hL).1
            have hpv2 : (p : Int) < (nv : Int) := by omega
            obtain ⟨b9, off9, x9, A9, dn9, dcap9, rfl, lb9, hx9, y0, y1, y2, y3, _⟩ := HTR2.out.at_ (Held.refl wc) (k := nv) hnn2
            obtain rfl : x9 = x := by rw [hx] at hx9; injection hx9 with hx9; exact hx9.symm
            have hlb9 := lt_of_cell y0
            simp only at hlb9
            rw [hp] at y1
            obtain ⟨gv, r, rfl, hgv, hgl, hr, hcell⟩ := M2.out.slot 2 rfl vrC_len (by decide) (k := p) (by rw [HVL.out]; exact hpv)
            have v0 := (hcell 0 (by decide)).2 (.slice r.A r.n r.cap) rfl
            simp only [Nat.mul_one, Nat.add_zero] at v0
            have hL4 := HVW.out.four L' (List.mem_of_getElem? hL)
            have hrn := HVE.out.2 p r L' hr hL
            have hown := keep_view hr hL M2.out
            obtain ⟨rA, rn, rcap⟩ := r
            simp only at hrn v0 hown
            obtain ⟨g0, c0, e0, hc00⟩ := own_blk hown (by rw [hL4]; decide)
            rw [hL4] at e0 hrn
            injection e0 with e0 e1 e2
            subst e0 e2 hrn
            have HT := Lib.hid hT
            have HL4 := Lib.hid hL4
            have HSL := Lib.hid (fun w' (q : Held wc w') => Sg.sl_news stC_len (by decide) ((Own.reads stC_len hown).1.held q))
            have M3 := Lib.hid (M2.out.emptyRow (e := 9) (s := 1) (f := stC) rfl)
            have hnv50 : (nv : Int) ≤ 1000000 := by have := HOK2.out.nods; have := HTR2.out.nn; omega
            clear hx hx9 hT hvl2 hve1 e1 hc00 y0 y2 y3 hown hL hL4 hr hcell hp
            go_wp2_with (first
              | (at_builtin; refine Mem.wp_apps M3.out 6 rfl rfl _ _ _ rfl _ 16 Try.underlying24 info_st rfl (by decide) stC_len stC_one L' ⟨g0, 0, none⟩ 4 rcap rfl rfl HL4.out (by decide) (HSL.out _ ((Held.refl wc).alloc _)) 0 rfl (by omega) (by decide) ?_; intro g4 cp4 w4 M4; have M5 := Lib.hid M4; clear M4)
              | (at_builtin; refine Mem.wp_app (M5.out.skip _) 2 rfl rfl _ _ _ rfl _ 24 Try.underlying47 info_vr rfl (by decide) vrC_len vrC_one ⟨some ⟨g4, 0, none⟩, 4, cp4⟩ ⟨w4.heap.size, 0, none⟩ 1 rfl rfl (cells_new _ (by simp) _ _) nv HVL.out (by omega) (by decide) ?_; intro g6 cp6 w6 M6; have M7 := Lib.hid M6; clear M6))
            go_meet
            case rel => exact ⟨V ++ [L'], VR ++ [⟨some ⟨g4, 0, none⟩, 4, cp4⟩], Ab, nb, cb, An, nn, cn, _, nv + 1, cp6, HT.out, HVE.out.snoc (by exact HL4.out.symm), rfl, by rw [List.length_append, HVL.out]; rfl, keep_push (r := ⟨some ⟨g4, 0, none⟩, 4, cp4⟩) (L := L') HVE.out.1 M7.out⟩
          | write p c L' he hk hn hb hc hL hT =>
            simp only at he hk hn hb hT
            have hpv : p < nv := by rw [← hvl2]; exact (List.getElem?_eq_some_iff.1 hL).1
            subst he hk hn hb
            have hpv2 : (p : Int) < (nv : Int) := by omega
            obtain ⟨gv, r, rfl, hgv, hgl, hr, hcell⟩ := M2.out.slot 2 rfl vrC_len (by decide) (k := p) (by rw [HVL.out]; exact hpv)
            have v0 := (hcell 0 (by decide)).2 (.slice r.A r.n r.cap) rfl
            simp only [Nat.mul_one, Nat.add_zero] at v0
            have hL4 := HVW.out.four L' (List.mem_of_getElem? hL)
            have hrn := HVE.out.2 p r L' hr hL
            have hown := keep_view hr hL M2.out
            obtain ⟨rA, rn, rcap⟩ := r
            simp only at hrn v0 hown
            obtain ⟨g0, c0, e0, hc00⟩ := own_blk hown (by rw [hL4]; decide)
            rw [hL4] at e0 hrn
            injection e0 with e0 e1 e2
            subst e0 e2 hrn
            obtain ⟨g1, e9, _, hg1, hc1⟩ := Own.slot stC_len hown (by decide) (k := c) (by rw [hL4]; exact hc)
            injection e9 with e9
            injection e9 with e9
            subst e9
            have u0 := (hc1 0 (by decide)).2 _ rfl
            have u0f := (hc1 0 (by decide)).1
            simp only [Nat.mul_one, Nat.add_zero] at u0 u0f
            have hc4 : (c : Int) < 4 := by omega
            have HT := Lib.hid hT
            have M3 := Lib.hid (keep_set hr hL (by rw [hL4]; exact hc) Od M2.out)
            have HSET := Lib.hid (HVE.out.set hL (M := L'.set c Od) (List.length_set))
            clear hvl2 hve1 e1 hc00 hown hL hr hcell hc1 hT
            go_wp2
            go_meet
            case rel => exact ⟨V.set p (L'.set c Od), VR, Ab, nb, cb, An, nn, cn, _, nv, cv, HT.out, HSET.out, rfl, HVL.out, M3.out⟩
        case rest =>
          obtain ⟨V3, VR3, Ab, nb, cb, An, nn, cn, Av, nv3, cv, hvw, hve, rfl, hvl, hM⟩ := hcut
          have M3 := Lib.hid hM
          have HVW3 := Lib.hid hvw
          have HVE3 := Lib.hid hve
          have HVL3 := Lib.hid hvl
          have hnv : nv3 = nn2 := by rw [← hvl, hve.1, hvw.len]; exact HTR2.out.nn
          have hnn12 := HOK2.out.nods
          rw [HTR2.out.nn] at hnn12
          clear hM hvw hve hvl HAC HVE HVL HVW M2 q0 q1 qf0 qf1 qlt HVL2 HTR2
          subst hnv
          obtain ⟨⟨p0, p1⟩, ⟨pf0, pf1⟩, plt⟩ := M3.out.box2 0 rfl
          obtain ⟨⟨q0, q1⟩, _, qlt⟩ := M3.out.box2 3 rfl
          have M5 := Lib.hid (((M3.out.put 0 rfl 0 (.slice Ab2 nb2 cb2)).put 0 rfl 1 (.slice An2 nv3 cn2)).sel [0, 1, 2, 4, 5] (by decide))
          go_wp2_with fail
          obtain ⟨w5, hw5⟩ : ∃ q, q = (wc.setCell ⟨tb, 0, none⟩ (.slice Ab2 nb2 cb2)).setCell ⟨tb, 1, none⟩ (.slice An2 nv3 cn2) := ⟨_, rfl⟩
          rw [← hw5] at M5 ⊢
          clear hw5 p0 p1 pf0 pf1 plt q0 q1 qlt M3
          have HTR5 := Lib.hid (many_tree M5.out (i := 3) rfl HE2.out)
          have HTR6 := Lib.hid (fun w' (q : Held w5 w') => HTR5.out.held q)
          have M6 := Lib.hid (fun w' (q : Held w5 w') => M5.out.keep q)
          have HVI := Lib.hid (fun k w' (q : Held w5 w') => view_any Ab2 nb2 cb2 An2 nv3 cn2 OT k w' (HTR6.out w' q) HOK2.out)
          have HB5 : Hid (OT.base = B ∧ B.length = 4) := And.intro HVW3.out.base HVW3.out.b4
          refine (valid_any Ab2 nb2 cb2 An2 nv3 cn2 OT _ HTR5.out HOK2.out).mono ?_
          rintro e w6 ⟨rfl, h6⟩
          obtain ⟨⟨p0, p1⟩, _, plt⟩ := (M6.out _ h6).box2 0 rfl
          have HK6 := Lib.hid h6
          clear h6
          go_wp2
          go_loopw [16] (fun i wr => ∃ k : Nat, i = .int .i64 k ∧ k ≤ nv3 ∧ Held w5 wr) (fun i _ => nv3 - (intOf i).toNat)
          case atStart => exact ⟨0, rfl, Nat.zero_le _, HK6.out⟩
          case round =>
            obtain ⟨m, rfl, hm, hw⟩ := hrel
            have HW := Lib.hid hw
            have M7 := Lib.hid (M6.out _ hw)
            clear hw p0 p1 plt
            obtain ⟨⟨p0, p1⟩, _, plt⟩ := M7.out.box2 0 rfl
            by_cases hlm : (m : Int) < nv3
            · obtain ⟨b9, off9, y, A9, dn9, dcap9, rfl, lb9, hy, y0, y1, y2, y3, _⟩ := HTR5.out.at_ HW.out (k := m) (by omega)
              have hlb9 := lt_of_cell y0
              simp only at hlb9
              have hnl := nm_live y
              have hhb : hasB OT m = live y := by
                unfold hasB ex
                rw [decide_eq_false (by omega), decide_eq_true (by omega), show ((m : Int)).toNat = m by omega, hy]
                rfl
              obtain ⟨gv, r, rfl, hgv, hgl, hr, hcell⟩ := M7.out.slot 2 rfl vrC_len (by decide) (k := m) (by rw [HVL3.out]; omega)
              have v0 := (hcell 0 (by decide)).2 (.slice r.A r.n r.cap) rfl
              simp only [Nat.mul_one, Nat.add_zero] at v0
              obtain ⟨L', hL⟩ : ∃ q, V3[m]? = some q := ⟨_, List.getElem?_eq_getElem (by rw [← HVE3.out.1, HVL3.out]; omega)⟩
              have hown := keep_view4 hr hL M7.out
              have hrn := HVE3.out.2 m r L' hr hL
              have hL4 := HVW3.out.four L' (List.mem_of_getElem? hL)
              have hvi := fun hl => HVW3.out.is m y L' hy hl hL
              have HVM := Lib.hid (HVI.out (m : Int) wr HW.out)
              rw [hL4] at hrn
              obtain ⟨rA, rn, rcap⟩ := r
              simp only at hrn v0 hown
              subst hrn
              unfold VwTo at HVM
              rw [hhb] at HVM
              obtain ⟨lv, hlv⟩ : ∃ q, live y = q := ⟨_, rfl⟩
              rw [hlv] at HVM hnl hvi
              have HOWN := Lib.hid (And.intro hown hvi)
              clear hhb hcell hr hL hL4 hy y1 y2 y3 hown hvi hlv
              cases lv
              · go_wp2_with (go_at_call 15; refine HVM.out.mono ?_; rintro e w8 ⟨A8, m8, cap8, L8, rfl, ho8, hi8, h8⟩; have k8 := Lib.hid h8; replace p0 := h8.cell p0; replace p1 := h8.cell p1; replace y0 := h8.cell y0; replace v0 := h8.cell v0; have hlb8 := Nat.lt_of_lt_of_le hlb9 h8.le; have hgl8 := Nat.lt_of_lt_of_le hgl h8.le; clear h8 ho8 hi8)
                go_roundw
                case rel => exact ⟨m + 1, by go_num, by omega, HW.out.step k8.out⟩
                case measure => (simp [intOf]) <;> omega
              · go_wp2_with (first
                  | (go_at_call 15; refine HVM.out.mono ?_; rintro e w8 ⟨A8, m8, cap8, L8, rfl, ho8, hi8, h8⟩; have k8 := Lib.hid h8; replace p0 := h8.cell p0; replace p1 := h8.cell p1; replace y0 := h8.cell y0; replace v0 := h8.cell v0; have hlb8 := Nat.lt_of_lt_of_le hlb9 h8.le; have hgl8 := Nat.lt_of_lt_of_le hgl h8.le; have HL8 : Hid (L8 = L') := (show L8 = L' by { rw [hi8 rfl, HB5.out.1, HB5.out.2]; exact (HOWN.out.2 rfl).symm }); have hr8 := Own.reads stC_len ho8; have hm8 : m8 = 4 := by { rw [hr8.2.1, hi8 rfl, viewTo_len, HB5.out.1, HB5.out.2] }; have HO8 := Lib.hid hr8.1; clear h8 ho8 hi8 hr8; subst hm8; rw [HL8.out] at HO8)
                  | (go_at_call 16; refine (sameStrings_any A8 4 cap8 rA rcap L' _ HO8.out ((Own.reads stC_len HOWN.out.1).1.held k8.out) (by decide)).mono ?_; rintro e w9 ⟨rfl, h9⟩; have k9 := Lib.hid h9; clear h9))
                go_roundw
                case rel => exact ⟨m + 1, by go_num, by omega, (HW.out.step k8.out).step k9.out⟩
                case measure => (simp [intOf]) <;> omega
            · have HVM := Lib.hid (HVI.out (-1) wr HW.out)
              unfold VwTo at HVM
              rw [show hasB OT (-1) = true from rfl] at HVM
              have hvb : viewTo OT (-1) 4 = B := by rw [viewTo_base (by decide) (by rw [HB5.out.1]; exact HB5.out.2), HB5.out.1]
              have HVB := Lib.hid hvb
              have HBO := Lib.hid (Own.reads stC_len (M7.out.row 1 rfl)).1
              clear hvb
              go_wp2_with (first
                | (go_at_call 15; refine HVM.out.mono ?_; rintro e w8 ⟨A8, m8, cap8, L8, rfl, ho8, hi8, h8⟩; have k8 := Lib.hid h8; have HL8 : Hid (L8 = B) := (show L8 = B by { rw [hi8 rfl, HB5.out.1, HB5.out.2]; exact HVB.out }); have hr8 := Own.reads stC_len ho8; have hm8 : m8 = 4 := by { rw [hr8.2.1, hi8 rfl, viewTo_len, HB5.out.1, HB5.out.2] }; have HO8 := Lib.hid hr8.1; clear h8 ho8 hi8 hr8; subst hm8; rw [HL8.out] at HO8)
                | (go_at_call 16; refine (sameStrings_any A8 4 cap8 A0 cap0 B _ HO8.out (HBO.out.held k8.out) (by decide)).mono ?_; rintro e w9 ⟨rfl, h9⟩; have k9 := Lib.hid h9; clear h9))
              go_roundw
              case rel => exact ⟨k + 1, by go_num, by omega, OT, V3, VR3, Ab2, nb2, cb2, An2, nv3, cn2, R2, Av, nv3, cv, HOK2.out, HVW3.out, HE2.out, HVE3.out, rfl, HVL3.out, (M7.out.keep k8.out).keep k9.out⟩
              case measure => (simp [intOf]) <;> omega
    · go_wp2_with (go_at_call 6; refine (HAW.out _).mono ?_; rintro e w9 ⟨rfl, h9⟩)
      go_ret
      exact ⟨rfl, M.out.held.step h9⟩
theorem keeps_law (o1 : Option Addr) (len1 cap1 : Nat) (z1 : List Int) (W : World) (h1 : Rw.IsRow .i64 W o1 len1 cap1 z1) :
    Calls Try.prog 5 #[.slice o1 len1 cap1] W fun e w' => e = .returned (.bool true) ∧ Below W.heap.size W w' := by
  obtain ⟨U, u1, u2⟩ := nums_in h1
  exact keeps_any o1 len1 cap1 U W u1 u2
end Sn
end Go.Proofs.Ytncgihbnfmpdbaa
