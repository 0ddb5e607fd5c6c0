/-
  Contracts: DeleteNode of the reference (chapter 41).
-/
import Derived.Test.YtncgihbnfmpdbaaSnRi
import Derived.Test.YtncgihbnfmpdbaaSnRj
import Derived.Deep.DeepCutAuto
set_option linter.unusedVariables false
set_option linter.unusedSimpArgs false
set_option maxRecDepth 100000
namespace Go.Proofs.Ytncgihbnfmpdbaa
open Go.RowKit Go.BigFrame
namespace Sn
/-- What DeleteNode hands back. -/
def DnR (T : Tr) (n : Int) (w : World) (e : Ending) (w' : World) : Prop :=
  ∃ Ab nb cb An nn cn, e = .returned (.tuple #[.agg #[.slice Ab nb cb, .slice An nn cn], .int .i64 (deleteE T n)]) ∧ TrR w' Ab nb An nn (delete T n) ∧ Held w w'
theorem DnR.no {T : Tr} {n k : Int} {w w' : World} {Ab : Option Addr} {nb cb : Nat} {An : Option Addr} {nn cn : Nat} (h : deleteE T n = k) (hk : k ≠ 0) (hT : TrR w Ab nb An nn T) (hw : Held w w') :
    DnR T n w (.returned (.tuple #[.agg #[.slice Ab nb cb, .slice An nn cn], .int .i64 k])) w' := by
  refine ⟨Ab, nb, cb, An, nn, cn, by rw [h], ?_, hw⟩
  unfold delete; rw [h, if_neg hk]; exact hT.held hw
theorem DnR.yes {T : Tr} {n : Int} {w w' : World} {Ab : Option Addr} {nb cb : Nat} {An : Option Addr} {nn cn : Nat} {N : List Nd} (h : deleteE T n = 0) (hN : delete T n = ⟨T.base, N⟩) (hT : TrR w' Ab nb An nn ⟨T.base, N⟩) (hw : Held w w') :
    DnR T n w (.returned (.tuple #[.agg #[.slice Ab nb cb, .slice An nn cn], .int .i64 0])) w' := by
  refine ⟨Ab, nb, cb, An, nn, cn, by rw [h], ?_, hw⟩
  rw [hN]; exact hT
theorem lookR_snd (ds : List Dl) (b : Int) : (lookR ds b).2 = (look ds b).isSome := by unfold lookR; cases look ds b <;> rfl
theorem setDs_setDs (N : List Nd) (j : Nat) (D E : List Dl) : setDs (setDs N j D) j E = setDs N j E := by
  refine List.ext_getElem? fun i => ?_
  unfold setDs
  rw [upd_at, upd_at, upd_at]
  by_cases e : j = i
  · rw [if_pos e, if_pos e, if_pos e]; cases N[i]? <;> rfl
  · rw [if_neg e, if_neg e, if_neg e]
theorem mem_dset {W w : World} {a b c : Ck} {Ab : Option Addr} {nb cb : Nat} {g nn cn : Nat} {B : List ByteArray} {R : List Nr} {N : List Nd} {p : Nat} {y : Nr} {x : Nd} {A : Option Addr} {n cap : Nat} {D : List Dl}
    (h : Mem W w ((a :: b :: c :: tRows W Ab nb cb (some ⟨g, 0, none⟩) nn cn B R N).set (p + 5) (.row 38 2 dlC W.heap.size (.slice A n cap) D))) (hy : R[p]? = some y) (hx : N[p]? = some x) :
    Mem W (w.setCell ⟨g, p * 4 + 3, none⟩ (.slice A n cap)) (a :: b :: c :: tRows W Ab nb cb (some ⟨g, 0, none⟩) nn cn B (R.set p { y with A := A, n := n, cap := cap }) (setDs N p D)) := by
  have := h.putAt 4 rfl nrC_len hy (j := 3) (by decide) (.slice A n cap) { y with A := A, n := n, cap := cap } rfl
  unfold tRows
  rw [← dRows_put hy hx]; exact this
set_option maxHeartbeats 8000000 in
theorem rdelete_any (Ab : Option Addr) (nb cb : Nat) (An : Option Addr) (nn cn : Nat) (T : Tr) (n : Int) (w : World) (h : TrR w Ab nb An nn T) (hv : Ok T) :
    Calls Try.prog 32 #[.agg #[.slice Ab nb cb, .slice An nn cn], .int .i64 n] w (DnR T n w) := by
  have HTR := Lib.hid h
  have HVA := Lib.hid (fun w' (q : Held w w') => rvalid_any Ab nb cb An nn cn T w' (h.held q) hv)
  have HEX := Lib.hid (fun w' (q : Held w w') => rexists_any Ab nb cb An nn cn T n w' (h.held q))
  have HCL := Lib.hid (fun w' (q : Held w w') => fresh_any Ab nb cb An nn cn T w' (h.held q) hv)
  have hn12 := hv.nods
  rw [h.nn] at hn12
  have hn12' : (nn : Int) ≤ 1000000 := by omega
  have HCH := Lib.hid (fun w' (q : Held w w') => rkids_any Ab nb cb An nn cn T n w' (h.held q) hn12')
  have M0 := Lib.hid (((Mem.start w).alloc #[.slice Ab nb cb, .slice An nn cn] 27).alloc' (b := w.heap.size + 1) (by simp) #[.slice none 0 0, .slice none 0 0] 27)
  have hnn := h.nn
  have hbl := h.bs.1
  have HNN := Lib.hid hnn
  obtain ⟨hb, hhb⟩ : ∃ q, ex T.nodes n = q := ⟨_, rfl⟩
  cases hb
  · have HP := Lib.hid (deleteE_no hhb)
    rw [hhb] at HEX
    clear h hv hhb hnn hbl
    go_enter Try.func32, Try.ntmps32
    go_wp2_with (first | (go_at_call 34; refine (HVA.out _ M0.out.held).mono ?_; rintro e w2 ⟨rfl, h2⟩; have M2 := Lib.hid (M0.out.keep h2); obtain ⟨⟨a0, a1⟩, ⟨af0, af1⟩, alt⟩ := M2.out.box2 0 rfl) | (go_at_call 45; refine (HEX.out _ M2.out.held).mono ?_; rintro e w3 ⟨rfl, h3⟩; have M3 := Lib.hid (M2.out.keep h3); obtain ⟨⟨b0, b1⟩, ⟨bf0, bf1⟩, blt⟩ := M3.out.box2 0 rfl; obtain ⟨⟨e0, e1⟩, ⟨ef0, ef1⟩, elt⟩ := M3.out.box2 1 rfl))
    have M9 := Lib.hid ((M3.out.put 1 rfl 0 (.slice Ab nb cb)).put 1 rfl 1 (.slice An nn cn))
    refine bodyPost_ret (Bx.res_ct Try.results32 rfl (TB.load (M9.out.blk 1 rfl) rfl rfl)) rfl ?_
    exact DnR.no HP.out (by decide) HTR.out M9.out.held
  · have HDE := Lib.hid (deleteE_yes hhb)
    obtain ⟨p, x, rfl, hx, hlx⟩ := ex_iff.1 hhb
    have hpn : (p : Int) < (nn : Int) := by have := (List.getElem?_eq_some_iff.1 hx).1; omega
    have hp0 : (0 : Int) ≤ p := by omega
    have HX := Lib.hid hx
    have hpar := ok_par_lt hv hx
    rw [hhb] at HEX
    obtain ⟨K, hK⟩ : ∃ q, kids T.nodes p = q := ⟨_, rfl⟩
    have HK := Lib.hid hK
    obtain ⟨kn, hkn⟩ : ∃ q, K.length = q := ⟨_, rfl⟩
    have HKN := Lib.hid hkn
    by_cases hk1 : (1 : Int) < (kn : Int)
    · have HP : Hid (deleteE T p = 4104) := show _ = _ by rw [HDE.out, HK.out, HKN.out, if_pos (by omega)]
      clear h hv hhb hnn hbl hK hkn hx
      go_enter Try.func32, Try.ntmps32
      go_wp2_with (first | (go_at_call 34; refine (HVA.out _ M0.out.held).mono ?_; rintro e w2 ⟨rfl, h2⟩; have M2 := Lib.hid (M0.out.keep h2); obtain ⟨⟨a0, a1⟩, ⟨af0, af1⟩, alt⟩ := M2.out.box2 0 rfl) | (go_at_call 45; refine (HEX.out _ M2.out.held).mono ?_; rintro e w3 ⟨rfl, h3⟩; have M3 := Lib.hid (M2.out.keep h3); obtain ⟨⟨b0, b1⟩, ⟨bf0, bf1⟩, blt⟩ := M3.out.box2 0 rfl) | (go_at_call 49; refine (HCH.out _ M3.out.held).mono ?_; rintro e w4 ⟨A4, cap4, rfl, hc4, ho4, h4⟩; rw [HK.out, HKN.out] at hc4 ⊢; have M4 := Lib.hid (M3.out.keep h4); obtain ⟨⟨c0, c1⟩, ⟨cf0, cf1⟩, clt⟩ := M4.out.box2 0 rfl; obtain ⟨⟨d0, d1⟩, ⟨df0, df1⟩, dlt⟩ := M4.out.box2 1 rfl; clear ho4))
      have M9 := Lib.hid ((M4.out.put 1 rfl 0 (.slice Ab nb cb)).put 1 rfl 1 (.slice An nn cn))
      refine bodyPost_ret (Bx.res_ct Try.results32 rfl (TB.load (M9.out.blk 1 rfl) rfl rfl)) rfl ?_
      exact DnR.no HP.out (by decide) HTR.out M9.out.held
    have HP : Hid (deleteE T p = 0) := show _ = _ by rw [HDE.out, HK.out, HKN.out, if_neg (by omega)]
    have HD := Lib.hid (delete_at hx HP.out)
    obtain ⟨tb, toff, x', A', dn', dcap', hAn, tlb, hx', x0, x1, x2, x3, _⟩ := h.at_ (Held.refl w) (k := p) (by omega)
    obtain rfl : x = x' := by rw [hx] at hx'; injection hx'
    subst hAn
    have HT1 := Lib.hid x1
    clear x0 x1 x2 x3 hx'
    by_cases hk0 : kn = 0
    · obtain rfl : K = [] := List.eq_nil_of_length_eq_zero (by omega)
      have HKO := Lib.hid (delKo_none (x := x) HK.out)
      subst hk0
      clear h hv hhb hnn hbl hK hkn hx
      go_enter Try.func32, Try.ntmps32
      go_upto_region 7 with (first | (go_at_call 34; refine (HVA.out _ M0.out.held).mono ?_; rintro e w2 ⟨rfl, h2⟩; have M2 := Lib.hid (M0.out.keep h2); obtain ⟨⟨a0, a1⟩, ⟨af0, af1⟩, alt⟩ := M2.out.box2 0 rfl) | (go_at_call 45; refine (HEX.out _ M2.out.held).mono ?_; rintro e w3 ⟨rfl, h3⟩; have M3 := Lib.hid (M2.out.keep h3); obtain ⟨⟨b0, b1⟩, ⟨bf0, bf1⟩, blt⟩ := M3.out.box2 0 rfl) | (go_at_call 49; refine (HCH.out _ M3.out.held).mono ?_; rintro e w4 ⟨A4, cap4, rfl, hc4, ho4, h4⟩; rw [HK.out] at hc4 ⊢; rw [List.length_nil] at hc4 ⊢; have M4 := Lib.hid (M3.out.keep h4); obtain ⟨⟨c0, c1⟩, ⟨cf0, cf1⟩, clt⟩ := M4.out.box2 0 rfl; clear ho4) | (go_at_call 46; refine (HCL.out _ M4.out.held).mono ?_; rintro e w5 ⟨An', cn', R, rfl, hT1⟩; have HE := Lib.hid hT1.eq; have h45 := hT1.held; have M5 := Lib.hid ((TrM.join M4.out hT1).allocF rfl #[.slice Ab nb cb, .slice An' nn cn'] 27); have HRL : Hid (R.length = nn) := (show _ = _ by { rw [hT1.eq.1]; exact HNN.out }); clear hT1))
      obtain ⟨g, y, rfl, hge, hlt, hy, hcell⟩ := M5.out.slot 4 rfl nrC_len (by decide) (k := p) (by rw [HRL.out]; omega)
      have hq := HE.out.2 p y x hy HX.out
      have M5 : Hid (Mem w (w5.alloc (.cells #[.slice Ab nb cb, .slice (some ⟨g, 0, none⟩) nn cn'] 27)) (.box w5.heap.size #[.slice Ab nb cb, .slice (some ⟨g, 0, none⟩) nn cn'] 27 :: .box w.heap.size #[.slice Ab nb cb, .slice (some ⟨tb, toff, none⟩) nn cn] 27 :: .box (w.heap.size + 1) #[.slice none 0 0, .slice none 0 0] 27 :: tRows w none 0 0 (some ⟨g, 0, none⟩) nn cn' [] R T.nodes)) := M5
      obtain ⟨w6, hw6⟩ : ∃ q, q = w5.alloc (.cells #[.slice Ab nb cb, .slice (some ⟨g, 0, none⟩) nn cn'] 27) := ⟨_, rfl⟩
      rw [← hw6] at M5 hlt ⊢
      clear hw6 hcell h45
      have t1 := M5.out.held.cell HT1.out
      have tl1 := Nat.lt_of_lt_of_le tlb M5.out.held.le
      obtain ⟨⟨f0, f1⟩, ⟨ff0, ff1⟩, flt⟩ := M5.out.box2 0 rfl
      obtain ⟨⟨c0, c1⟩, ⟨cf0, cf1⟩, clt⟩ := M5.out.box2 1 rfl
      have s0 : w6.cell? ⟨g, p * 4, none⟩ = some (.string y.nm) := (M5.out.cellAt 4 rfl nrC_len (by decide) hy (j := 0) (by decide)).2 _ rfl
      have s0f : w6.frozen? ⟨g, p * 4, none⟩ = false := (M5.out.cellAt 4 rfl nrC_len (by decide) hy (j := 0) (by decide)).1
      have s1 : w6.cell? ⟨g, p * 4 + 1, none⟩ = some (.int .i64 y.par) := (M5.out.cellAt 4 rfl nrC_len (by decide) hy (j := 1) (by decide)).2 _ rfl
      have s1f : w6.frozen? ⟨g, p * 4 + 1, none⟩ = false := (M5.out.cellAt 4 rfl nrC_len (by decide) hy (j := 1) (by decide)).1
      have s2 : w6.cell? ⟨g, p * 4 + 2, none⟩ = some (.bool y.op) := (M5.out.cellAt 4 rfl nrC_len (by decide) hy (j := 2) (by decide)).2 _ rfl
      have s2f : w6.frozen? ⟨g, p * 4 + 2, none⟩ = false := (M5.out.cellAt 4 rfl nrC_len (by decide) hy (j := 2) (by decide)).1
      have s3 : w6.cell? ⟨g, p * 4 + 3, none⟩ = some (.slice y.A y.n y.cap) := (M5.out.cellAt 4 rfl nrC_len (by decide) hy (j := 3) (by decide)).2 _ rfl
      have s3f : w6.frozen? ⟨g, p * 4 + 3, none⟩ = false := (M5.out.cellAt 4 rfl nrC_len (by decide) hy (j := 3) (by decide)).1
      go_upto_region 21 with fail
      have M7 := Lib.hid (mem_gone M5.out hy HX.out)
      have HE7 := Lib.hid (HE.out.gone HX.out)
      obtain ⟨w7, hw7⟩ : ∃ q, q = ((((w6.setCell ⟨g, p * 4, none⟩ (.string ⟨#[]⟩)).setCell ⟨g, p * 4 + 1, none⟩ (.int .i64 (-1))).setCell ⟨g, p * 4 + 2, none⟩ (.bool false)).setCell ⟨g, p * 4 + 3, none⟩ (.slice none 0 0)) := ⟨_, rfl⟩
      rw [← hw7] at M7 ⊢
      clear hw7
      clear s0 s1 s2 s3 s0f s1f s2f s3f c0 c1 cf0 cf1 clt f0 f1 ff0 ff1 flt t1
      have hpu : ¬ x.par = (p : Int) := by omega
      obtain ⟨⟨t0, t1⟩, ⟨tf0, tf1⟩, tlt⟩ := M7.out.box2 0 rfl
      by_cases hup : x.par < 0
      · have hup2 : ¬ 0 ≤ x.par := by omega
        have M20 := Lib.hid ((M7.out.put 2 rfl 0 (.slice Ab nb cb)).put 2 rfl 1 (.slice (some ⟨g, 0, none⟩) nn cn'))
        obtain ⟨⟨r0, r1⟩, ⟨rf0, rf1⟩, rlt⟩ := M7.out.box2 0 rfl
        obtain ⟨⟨q0, q1⟩, ⟨qf0, qf1⟩, qlt⟩ := M7.out.box2 2 rfl
        go_wp2
        refine bodyPost_ret (Bx.res_ct Try.results32 rfl (TB.load (M20.out.blk 2 rfl) rfl rfl)) rfl ?_
        exact DnR.yes (N := (gone T.nodes p)) HP.out (by rw [HD.out, HKO.out, del_shut (.inl hup)]) (mixTr (cn := cn') (R := (R.set p ⟨⟨#[]⟩, -1, false, none, 0, 0⟩)) HTR.out.bs HTR.out.bnil ⟨M20.out.rest.rest.rest, HE7.out⟩) M20.out.held
      · obtain ⟨u, hu⟩ := Int.eq_ofNat_of_zero_le (by omega : 0 ≤ x.par)
        rw [hu] at hpar ⊢
        have HU := Lib.hid hu
        have hun : (u : Int) < (nn : Int) := by omega
        have HCH2 := Lib.hid (rkids_any Ab nb cb (some ⟨g, 0, none⟩) nn cn' ⟨T.base, (gone T.nodes p)⟩ u w7 (mixTr (cn := cn') HTR.out.bs HTR.out.bnil ⟨M7.out.rest.rest.rest, HE7.out⟩) hn12')
        obtain ⟨K2, hK2⟩ : ∃ q, kids ((gone T.nodes p)) u = q := ⟨_, rfl⟩
        have HK2 := Lib.hid hK2
        obtain ⟨ln, hln⟩ : ∃ q, K2.length = q := ⟨_, rfl⟩
        have HLN := Lib.hid hln
        clear hK2 hu hln hup
        by_cases hl0 : ln = 0
        · subst hl0
          have HEM : Hid ((kids ((gone T.nodes p)) u).isEmpty = true) := show _ = _ by rw [HK2.out, List.eq_nil_of_length_eq_zero HLN.out]; rfl
          have hul : u < ((R.set p ⟨⟨#[]⟩, -1, false, none, 0, 0⟩)).length := by have := HE7.out.1; have h9 : ((gone T.nodes p)).length = nn := by { unfold gone; rw [upd_len, HNN.out] }; omega
          have huy := List.getElem?_eq_getElem hul
          obtain ⟨uy, huy'⟩ : ∃ q, ((R.set p ⟨⟨#[]⟩, -1, false, none, 0, 0⟩))[u]? = some q := ⟨_, huy⟩
          obtain ⟨ux, hux⟩ : ∃ q, ((gone T.nodes p))[u]? = some q := ⟨_, List.getElem?_eq_getElem (by rw [← HE7.out.1]; exact hul)⟩
          have hq9 := HE7.out.2 u uy ux huy' hux
          have HUX := Lib.hid hux
          have HUQ := Lib.hid hq9
          clear huy hq9 hux
          go_upto_region 23 with (go_at_call 49; refine HCH2.out.mono ?_; rintro e w30 ⟨A30, cap30, rfl, hc30, ho30, h30⟩; rw [HK2.out, HLN.out] at hc30 ⊢; clear ho30; have M30 := Lib.hid (M7.out.keep h30); obtain ⟨⟨r0, r1⟩, ⟨rf0, rf1⟩, rlt⟩ := M30.out.box2 0 rfl; obtain ⟨⟨q0, q1⟩, ⟨qf0, qf1⟩, qlt⟩ := M30.out.box2 2 rfl; have k2 := (M30.out.cellAt 4 rfl nrC_len (by decide) huy' (j := 2) (by decide)).2 _ rfl; have k2f := (M30.out.cellAt 4 rfl nrC_len (by decide) huy' (j := 2) (by decide)).1)
          have M31 := Lib.hid (mem_field M30.out huy' HUX.out (j := 2) (by decide) (.bool true) { uy with op := true } (fun x => { x with op := true }) rfl ⟨rfl, rfl, rfl⟩ rfl)
          obtain ⟨w31, hw31⟩ : ∃ q, q = w30.setCell ⟨g, u * 4 + 2, none⟩ (.bool true) := ⟨_, rfl⟩
          rw [← hw31] at M31 ⊢
          clear hw31
          clear r0 r1 rf0 rf1 rlt q0 q1 qf0 qf1 qlt
          have M20 := Lib.hid ((M31.out.put 2 rfl 0 (.slice Ab nb cb)).put 2 rfl 1 (.slice (some ⟨g, 0, none⟩) nn cn'))
          obtain ⟨⟨r0, r1⟩, ⟨rf0, rf1⟩, rlt⟩ := M31.out.box2 0 rfl
          obtain ⟨⟨q0, q1⟩, ⟨qf0, qf1⟩, qlt⟩ := M31.out.box2 2 rfl
          go_wp2
          refine bodyPost_ret (Bx.res_ct Try.results32 rfl (TB.load (M20.out.blk 2 rfl) rfl rfl)) rfl ?_
          exact DnR.yes (N := upd ((gone T.nodes p)) u (fun x => { x with op := true })) HP.out (by rw [HD.out, HKO.out, HU.out, del_open (by omega) (by rw [← gone_alone]; exact HEM.out)]) (mixTr (cn := cn') (R := ((R.set p ⟨⟨#[]⟩, -1, false, none, 0, 0⟩)).set u { uy with op := true }) HTR.out.bs HTR.out.bnil ⟨M20.out.rest.rest.rest, HE7.out.set HUX.out ⟨HUQ.out.nm, HUQ.out.par, rfl, HUQ.out.n⟩⟩) M20.out.held
        · have hl1 : ((ln : Int) == 0) = false := by simp; omega
          have hl2 : (kids ((gone T.nodes p)) u).isEmpty = false := by rw [HK2.out]; cases K2 with | nil => exact absurd HLN.out.symm hl0 | cons a l => rfl
          have HEM := Lib.hid hl2
          clear hl2
          go_wp2_with (go_at_call 49; refine HCH2.out.mono ?_; rintro e w30 ⟨A30, cap30, rfl, hc30, ho30, h30⟩; rw [HK2.out, HLN.out] at hc30 ⊢; clear ho30; have M30 := Lib.hid (M7.out.keep h30); obtain ⟨⟨r0, r1⟩, ⟨rf0, rf1⟩, rlt⟩ := M30.out.box2 0 rfl; obtain ⟨⟨q0, q1⟩, ⟨qf0, qf1⟩, qlt⟩ := M30.out.box2 2 rfl)
          have M32 := Lib.hid M30.out
          have M20 := Lib.hid ((M32.out.put 2 rfl 0 (.slice Ab nb cb)).put 2 rfl 1 (.slice (some ⟨g, 0, none⟩) nn cn'))
          go_wp2
          refine bodyPost_ret (Bx.res_ct Try.results32 rfl (TB.load (M20.out.blk 2 rfl) rfl rfl)) rfl ?_
          exact DnR.yes (N := (gone T.nodes p)) HP.out (by rw [HD.out, HKO.out, HU.out, del_shut (.inr (by rw [← gone_alone]; exact HEM.out))]) (mixTr (cn := cn') (R := (R.set p ⟨⟨#[]⟩, -1, false, none, 0, 0⟩)) HTR.out.bs HTR.out.bnil ⟨M20.out.rest.rest.rest, HE7.out⟩) M20.out.held
    obtain ⟨kk, rfl⟩ : ∃ q, K = [q] := by
      cases K with
      | nil => exact absurd hkn.symm (fun q => hk0 q.symm.symm)
      | cons a l => cases l with
        | nil => exact ⟨a, rfl⟩
        | cons b l => simp at hkn; omega
    obtain ⟨jn, cx, rfl, hcx, hck⟩ := kids_mem.1 (show kk ∈ kids T.nodes p by rw [hK]; simp)
    have hcl : live cx = true ∧ cx.par = p := by unfold isKid at hck; simpa using hck
    have hcp := ok_par_lt hv hcx
    have hjp : ¬ jn = p := by omega
    have hjn : (jn : Int) < (nn : Int) := by have := (List.getElem?_eq_some_iff.1 hcx).1; omega
    have hj0 : (0 : Int) ≤ jn := by omega
    have HCX := Lib.hid hcx
    have HKO := Lib.hid (delKo_some (x := x) HK.out hcx)
    have HDA := Lib.hid (fun w' (q : Held w w') (b : Int) => rdelta_any Ab nb cb (some ⟨tb, toff, none⟩) nn cn T jn b cx w' (h.held q) hcx (ok_dl hv jn cx hcx))
    have HDB := Lib.hid (fun w' (q : Held w w') (b : Int) => rdelta_any Ab nb cb (some ⟨tb, toff, none⟩) nn cn T p b x w' (h.held q) hx (ok_dl hv p x hx))
    have HSA := Lib.hid (fun w' (q : Held w w') (b : Nat) (hb : b < nb) => rsees_any Ab nb cb (some ⟨tb, toff, none⟩) nn cn T jn b w' (h.held q) hv (by omega) (by omega) hb)
    have HSB := Lib.hid (fun w' (q : Held w w') (b : Nat) (hb : b < nb) => rsees_any Ab nb cb (some ⟨tb, toff, none⟩) nn cn T x.par b w' (h.held q) hv (by omega) (by omega) hb)
    have hka := rkTo_kept hv hx hcx hcl.2
    rw [hbl] at hka
    have HKA := Lib.hid hka
    have hnb2 := hv.base2
    rw [hbl] at hnb2
    have hcl2 := hcl.1
    clear h hv hhb hnn hbl hK hkn hx hcx hck hcl hka
    go_enter Try.func32, Try.ntmps32
    go_upto_region 7 with (first | (go_at_call 34; refine (HVA.out _ M0.out.held).mono ?_; rintro e w2 ⟨rfl, h2⟩; have M2 := Lib.hid (M0.out.keep h2); obtain ⟨⟨a0, a1⟩, ⟨af0, af1⟩, alt⟩ := M2.out.box2 0 rfl) | (go_at_call 45; refine (HEX.out _ M2.out.held).mono ?_; rintro e w3 ⟨rfl, h3⟩; have M3 := Lib.hid (M2.out.keep h3); obtain ⟨⟨b0, b1⟩, ⟨bf0, bf1⟩, blt⟩ := M3.out.box2 0 rfl) | (go_at_call 49; refine (HCH.out _ M3.out.held).mono ?_; rintro e w4 ⟨A4, cap4, rfl, hc4, ho4, h4⟩; rw [HK.out] at hc4 ho4 ⊢; rw [show ([(jn : Int)] : List Int).length = 1 from rfl] at hc4 ho4 ⊢; have M4 := Lib.hid (M3.out.keep h4); obtain ⟨⟨c0, c1⟩, ⟨cf0, cf1⟩, clt⟩ := M4.out.box2 0 rfl; obtain ⟨b4, rfl, _, lb4, hsl4⟩ := Own.slot inC_len ho4 (by decide) (k := 0) (by simp); have s4 := (hsl4 0 (by decide)).2 (.int .i64 (jn : Int)) rfl; simp only [Nat.zero_mul, Nat.add_zero] at s4; clear hsl4 ho4) | (go_at_call 46; refine (HCL.out _ M4.out.held).mono ?_; rintro e w5 ⟨An', cn', R, rfl, hT1⟩; have HE := Lib.hid hT1.eq; have h45 := hT1.held; have M5 := Lib.hid ((TrM.join M4.out hT1).allocF rfl #[.slice Ab nb cb, .slice An' nn cn'] 27); have HRL : Hid (R.length = nn) := (show _ = _ by { rw [hT1.eq.1]; exact HNN.out }); clear hT1))
    obtain ⟨g, y, rfl, hge, hlt, hy, hcell⟩ := M5.out.slot 4 rfl nrC_len (by decide) (k := p) (by rw [HRL.out]; omega)
    have hq := HE.out.2 p y x hy HX.out
    have M5 : Hid (Mem w (w5.alloc (.cells #[.slice Ab nb cb, .slice (some ⟨g, 0, none⟩) nn cn'] 27)) (.box w5.heap.size #[.slice Ab nb cb, .slice (some ⟨g, 0, none⟩) nn cn'] 27 :: .box w.heap.size #[.slice Ab nb cb, .slice (some ⟨tb, toff, none⟩) nn cn] 27 :: .box (w.heap.size + 1) #[.slice none 0 0, .slice none 0 0] 27 :: tRows w none 0 0 (some ⟨g, 0, none⟩) nn cn' [] R T.nodes)) := M5
    have s5 := (h45.step ((Held.refl w5).alloc (.cells #[.slice Ab nb cb, .slice (some ⟨g, 0, none⟩) nn cn'] 27))).cell s4
    obtain ⟨w6, hw6⟩ : ∃ q, q = w5.alloc (.cells #[.slice Ab nb cb, .slice (some ⟨g, 0, none⟩) nn cn'] 27) := ⟨_, rfl⟩
    rw [← hw6] at M5 hlt s5 ⊢
    clear hw6 hcell h45
    have t1 := M5.out.held.cell HT1.out
    have tl1 := Nat.lt_of_lt_of_le tlb M5.out.held.le
    obtain ⟨⟨f0, f1⟩, ⟨ff0, ff1⟩, flt⟩ := M5.out.box2 0 rfl
    obtain ⟨⟨c0, c1⟩, ⟨cf0, cf1⟩, clt⟩ := M5.out.box2 1 rfl
    obtain ⟨cy, hcy, hcq⟩ := HE.out.at HCX.out
    have HCY := Lib.hid hcq
    have HYQ := Lib.hid hq
    clear hcq hq s4
    have j1 : w6.cell? ⟨g, jn * 4 + 1, none⟩ = some (.int .i64 cy.par) := (M5.out.cellAt 4 rfl nrC_len (by decide) hcy (j := 1) (by decide)).2 _ rfl
    have j1f : w6.frozen? ⟨g, jn * 4 + 1, none⟩ = false := (M5.out.cellAt 4 rfl nrC_len (by decide) hcy (j := 1) (by decide)).1
    go_upto_region 11 with fail
    have M10 := Lib.hid (mem_field M5.out hcy HCX.out (j := 1) (by decide) (.int .i64 x.par) ({ cy with par := x.par } : Nr) (fun z => { z with par := x.par }) rfl ⟨rfl, rfl, rfl⟩ rfl)
    obtain ⟨w10, hw10⟩ : ∃ q, q = w6.setCell ⟨g, jn * 4 + 1, none⟩ (.int .i64 x.par) := ⟨_, rfl⟩
    rw [← hw10] at M10 ⊢
    clear hw10
    clear j1 j1f s5 t1 f0 f1 ff0 ff1 flt c0 c1 cf0 cf1 clt
    have hcy10 : (R.set jn ({ cy with par := x.par } : Nr))[jn]? = some ({ cy with par := x.par } : Nr) := List.getElem?_set_self (List.getElem?_eq_some_iff.1 hcy).1
    have hcx10 : (upd T.nodes jn (fun z => { z with par := x.par }))[jn]? = some { cx with par := x.par } := by rw [upd_at, if_pos rfl, HCX.out]; rfl
    have HCX10 := Lib.hid hcx10
    clear hcx10
    obtain ⟨⟨f0, f1⟩, ⟨ff0, ff1⟩, flt⟩ := M10.out.box2 0 rfl
    have t3 : w10.cell? ⟨g, jn * 4 + 3, none⟩ = some (.slice cy.A cy.n cy.cap) := (M10.out.cellAt 4 rfl nrC_len (by decide) hcy10 (j := 3) (by decide)).2 _ rfl
    have t3f : w10.frozen? ⟨g, jn * 4 + 3, none⟩ = false := (M10.out.cellAt 4 rfl nrC_len (by decide) hcy10 (j := 3) (by decide)).1
    go_upto_region 12 with fail
    have M11 := Lib.hid (mem_deltas ((M10.out.nilRow (e := 38) (s := 2) (f := dlC)).toFront) hcy10 HCX10.out)
    obtain ⟨w11, hw11⟩ : ∃ q, q = w10.setCell ⟨g, jn * 4 + 3, none⟩ (.slice none 0 0) := ⟨_, rfl⟩
    rw [← hw11] at M11 ⊢
    clear hw11
    clear t3 t3f f0 f1 ff0 ff1 flt
    go_wp2_with fail
    go_loopw [10] (fun i wr => ∃ (k n : Nat) (A : Option Addr) (cp : Nat), i = .int .i64 k ∧ k ≤ nb ∧ (rkTo T cx.ds x.ds jn x.par k).length = n ∧ Mem w wr (.box w5.heap.size #[.slice Ab nb cb, .slice (some ⟨g, 0, none⟩) nn cn'] 27 :: .box w.heap.size #[.slice Ab nb cb, .slice (some ⟨tb, toff, none⟩) nn cn] 27 :: .box (w.heap.size + 1) #[.slice none 0 0, .slice none 0 0] 27 :: tRows w none 0 0 (some ⟨g, 0, none⟩) nn cn' [] ((R.set jn ({ cy with par := x.par } : Nr)).set jn { ({ cy with par := x.par } : Nr) with A := A, n := n, cap := cp }) (setDs (upd T.nodes jn (fun z => { z with par := x.par })) jn (rkTo T cx.ds x.ds jn x.par k)))) (fun i _ => nb - (intOf i).toNat)
    case atStart => exact ⟨0, 0, none, 0, rfl, Nat.zero_le _, rfl, M11.out⟩
    case round =>
      obtain ⟨k, n, A, cp, rfl, hk, hn, hM⟩ := hrel
      have M12 := Lib.hid hM
      have HN := Lib.hid hn
      have hnk : n ≤ k := by have := rkTo_len T cx.ds x.ds jn x.par k; rw [hn] at this; exact this
      clear hM hn M11
      by_cases hlt2 : (k : Int) < nb
      · have hk0' : (0 : Int) ≤ k := by omega
        have HC1 := Lib.hid (fun w' (q : Held w w') => HDA.out w' q k)
        have HC2 := Lib.hid (fun w' (q : Held w w') => HDB.out w' q k)
        have HS1 := Lib.hid (fun w' (q : Held w w') => HSA.out w' q k (by omega))
        have HS2 := Lib.hid (fun w' (q : Held w w') => HSB.out w' q k (by omega))
        obtain ⟨v1, hv1⟩ : ∃ q, (lookR cx.ds k).1 = q := ⟨_, rfl⟩
        obtain ⟨m1, hm1⟩ : ∃ q, (lookR cx.ds k).2 = q := ⟨_, rfl⟩
        obtain ⟨v2, hv2⟩ : ∃ q, (lookR x.ds k).1 = q := ⟨_, rfl⟩
        obtain ⟨m2, hm2⟩ : ∃ q, (lookR x.ds k).2 = q := ⟨_, rfl⟩
        obtain ⟨s1, hs1⟩ : ∃ q, sees T jn k = q := ⟨_, rfl⟩
        obtain ⟨s2, hs2⟩ : ∃ q, sees T x.par k = q := ⟨_, rfl⟩
        rw [hv1, hm1] at HC1
        rw [hv2, hm2] at HC2
        rw [hs1] at HS1
        rw [hs2] at HS2
        rw [lookR_snd] at hm1 hm2
        have hkb := lookR_rkB T cx.ds x.ds jn x.par k m1 m2 s1 s2 hm1 hm2 hs1 hs2
        have HNX := Lib.hid (fun b (h : rkB T cx.ds x.ds jn x.par k = b) => rkTo_next (T := T) (c := cx.ds) (p := x.ds) (k := jn) (up := x.par) h hs1)
        have HKB := Lib.hid hkb
        clear hv1 hm1 hv2 hm2 hs1 hs2 hkb
        cases m1
        rotate_left
        · obtain ⟨is, his⟩ : ∃ q, decide (¬ s1 = s2) = q := ⟨_, rfl⟩
          cases is
          · have hnb := neq_f his
            have HS : Hid ((rkTo T cx.ds x.ds jn x.par (k + 1)) = (rkTo T cx.ds x.ds jn x.par k)) := show _ = _ by rw [HNX.out false (by rw [HKB.out, his]; simp)]; simp
            clear his
            obtain ⟨⟨c0, c1⟩, ⟨cf0, cf1⟩, clt⟩ := M12.out.box2 1 rfl
            go_wp2_with fail
            go_at_call 50
            refine (HC1.out _ M12.out.held).mono ?_
            rintro e w13 ⟨rfl, h13⟩
            have M13 := Lib.hid (M12.out.keep h13)
            clear h13 c0 c1 cf0 cf1 clt
            obtain ⟨⟨c0, c1⟩, ⟨cf0, cf1⟩, clt⟩ := M13.out.box2 1 rfl
            go_wp2_with fail
            go_at_call 50
            refine (HC2.out _ M13.out.held).mono ?_
            rintro e w14 ⟨rfl, h14⟩
            have M14 := Lib.hid (M13.out.keep h14)
            clear h14 c0 c1 cf0 cf1 clt
            obtain ⟨⟨c0, c1⟩, ⟨cf0, cf1⟩, clt⟩ := M14.out.box2 1 rfl
            go_wp2_with fail
            go_at_call 47
            refine (HS1.out _ M14.out.held).mono ?_
            rintro e w15 ⟨rfl, h15⟩
            have M15 := Lib.hid (M14.out.keep h15)
            clear h15 c0 c1 cf0 cf1 clt
            obtain ⟨⟨c0, c1⟩, ⟨cf0, cf1⟩, clt⟩ := M15.out.box2 1 rfl
            go_wp2_with fail
            go_at_call 47
            refine (HS2.out _ M15.out.held).mono ?_
            rintro e w16 ⟨rfl, h16⟩
            have M16 := Lib.hid (M15.out.keep h16)
            clear h16 c0 c1 cf0 cf1 clt
            obtain ⟨⟨c0, c1⟩, ⟨cf0, cf1⟩, clt⟩ := M16.out.box2 1 rfl
            go_wp2
            go_roundw
            case rel => exact ⟨k + 1, n, A, cp, by go_num, by omega, by rw [HS.out, HN.out], by rw [HS.out]; exact M16.out⟩
            case measure => (simp [intOf]) <;> omega
          · have hnb := neq_t his
            have HS : Hid ((rkTo T cx.ds x.ds jn x.par (k + 1)) = (rkTo T cx.ds x.ds jn x.par k) ++ [⟨(k : Int), s1⟩]) := show _ = _ by rw [HNX.out true (by rw [HKB.out, his]; simp)]; simp
            clear his
            obtain ⟨⟨c0, c1⟩, ⟨cf0, cf1⟩, clt⟩ := M12.out.box2 1 rfl
            go_wp2_with fail
            go_at_call 50
            refine (HC1.out _ M12.out.held).mono ?_
            rintro e w13 ⟨rfl, h13⟩
            have M13 := Lib.hid (M12.out.keep h13)
            clear h13 c0 c1 cf0 cf1 clt
            obtain ⟨⟨c0, c1⟩, ⟨cf0, cf1⟩, clt⟩ := M13.out.box2 1 rfl
            go_wp2_with fail
            go_at_call 50
            refine (HC2.out _ M13.out.held).mono ?_
            rintro e w14 ⟨rfl, h14⟩
            have M14 := Lib.hid (M13.out.keep h14)
            clear h14 c0 c1 cf0 cf1 clt
            obtain ⟨⟨c0, c1⟩, ⟨cf0, cf1⟩, clt⟩ := M14.out.box2 1 rfl
            go_wp2_with fail
            go_at_call 47
            refine (HS1.out _ M14.out.held).mono ?_
            rintro e w15 ⟨rfl, h15⟩
            have M15 := Lib.hid (M14.out.keep h15)
            clear h15 c0 c1 cf0 cf1 clt
            obtain ⟨⟨c0, c1⟩, ⟨cf0, cf1⟩, clt⟩ := M15.out.box2 1 rfl
            go_wp2_with fail
            go_at_call 47
            refine (HS2.out _ M15.out.held).mono ?_
            rintro e w16 ⟨rfl, h16⟩
            have M16 := Lib.hid (M15.out.keep h16)
            clear h16 c0 c1 cf0 cf1 clt
            obtain ⟨⟨c0, c1⟩, ⟨cf0, cf1⟩, clt⟩ := M16.out.box2 1 rfl
            go_wp2_with fail
            have hyL : ((R.set jn ({ cy with par := x.par } : Nr)).set jn { ({ cy with par := x.par } : Nr) with A := A, n := n, cap := cp })[jn]? = some { ({ cy with par := x.par } : Nr) with A := A, n := n, cap := cp } := List.getElem?_set_self (by rw [List.length_set]; exact (List.getElem?_eq_some_iff.1 hcy).1)
            have hxL : (setDs (upd T.nodes jn (fun z => { z with par := x.par })) jn (rkTo T cx.ds x.ds jn x.par k))[jn]? = some { cx with par := x.par, ds := (rkTo T cx.ds x.ds jn x.par k) } := by rw [setDs_at (x := { cx with par := x.par }) (by rw [upd_at, if_pos rfl, HCX.out]; rfl), if_pos rfl]
            have HXL := Lib.hid hxL
            have HYL := Lib.hid hyL
            clear hyL hxL
            obtain ⟨⟨f0, f1⟩, ⟨ff0, ff1⟩, flt⟩ := M16.out.box2 0 rfl
            have z3 : w16.cell? ⟨g, jn * 4 + 3, none⟩ = some (.slice A n cp) := (M16.out.cellAt 4 rfl nrC_len (by decide) HYL.out (j := 3) (by decide)).2 _ rfl
            have z3f : w16.frozen? ⟨g, jn * 4 + 3, none⟩ = false := (M16.out.cellAt 4 rfl nrC_len (by decide) HYL.out (j := 3) (by decide)).1
            have HSF : ∀ w' : World, (w'.cell? ⟨w5.heap.size, 1, none⟩ = some (.slice (some ⟨g, 0, none⟩) nn cn') ∧ w'.cell? ⟨g, jn * 4 + 3, none⟩ = some (.slice A n cp)) → (w'.cell? ⟨w5.heap.size, 1, none⟩ = some (.slice (some ⟨g, 0, none⟩) nn cn') ∧ w'.cell? ⟨g, jn * 4 + 3, none⟩ = some (.slice A n cp)) := fun w' q => q
            have hS : w16.drew.cell? ⟨w5.heap.size, 1, none⟩ = some (.slice (some ⟨g, 0, none⟩) nn cn') ∧ w16.drew.cell? ⟨g, jn * 4 + 3, none⟩ = some (.slice A n cp) := ⟨(Held.refl w16).drew.cell f1, (Held.refl w16).drew.cell z3⟩
            have M17 := Lib.hid (M16.out.drew)
            clear f0 f1 ff0 ff1 flt c0 c1 cf0 cf1 clt z3 z3f
            refine AnyT.startL (S := (fun w' : World => w'.cell? ⟨w5.heap.size, 1, none⟩ = some (.slice (some ⟨g, 0, none⟩) nn cn') ∧ w'.cell? ⟨g, jn * 4 + 3, none⟩ = some (.slice A n cp))) 16 (l := #[false, false, false, false, false, false, false, false, false, false, false, false, false, false, false, false, false]) (f := 17) (by kernel_rfl) (by kernel_rfl) (by kernel_rfl) ?_
            refine AnyT.takeL (l := #[false, false, false, false, false, false, false, false, false, false, false, false, false, false, false, false, false]) (l' := #[true, false, false, false, false, false, false, false, false, false, false, false, false, false, false, false, false]) (i := 0) (d := some 95) (v := ?_) (by kernel_rfl) rfl (by kernel_rfl) (by kernel_rfl) (by kernel_rfl) (fun _ _ _ h => h) (Or.inl ⟨by rfl, ?_⟩) hS ?_
            rotate_left
            · (intro w0 hw0; obtain ⟨k1, k2⟩ := HSF w0 hw0; go_simp; try with_reducible rfl)
            try simp only [Act.put, List.setIfInBounds_toArray, List.set_cons_zero, List.set_cons_succ]
            refine AnyT.takeL (l := #[true, false, false, false, false, false, false, false, false, false, false, false, false, false, false, false, false]) (l' := #[true, true, false, false, false, false, false, false, false, false, false, false, false, false, false, false, false]) (i := 1) (d := some 96) (v := ?_) (by kernel_rfl) rfl (by kernel_rfl) (by kernel_rfl) (by kernel_rfl) (fun _ _ _ h => h) (Or.inl ⟨by rfl, ?_⟩) hS ?_
            rotate_left
            · (intro w0 hw0; obtain ⟨k1, k2⟩ := HSF w0 hw0; go_simp; try with_reducible rfl)
            try simp only [Act.put, List.setIfInBounds_toArray, List.set_cons_zero, List.set_cons_succ]
            refine AnyT.takeL (l := #[true, true, false, false, false, false, false, false, false, false, false, false, false, false, false, false, false]) (l' := #[true, true, true, false, false, false, false, false, false, false, false, false, false, false, false, false, false]) (i := 2) (d := some 97) (v := ?_) (by kernel_rfl) rfl (by kernel_rfl) (by kernel_rfl) (by kernel_rfl) (fun _ _ _ h => h) (Or.inl ⟨by rfl, ?_⟩) hS ?_
            rotate_left
            · (intro w0 hw0; obtain ⟨k1, k2⟩ := HSF w0 hw0; go_simp; try with_reducible rfl)
            try simp only [Act.put, List.setIfInBounds_toArray, List.set_cons_zero, List.set_cons_succ]
            refine AnyT.takeL (l := #[true, true, true, false, false, false, false, false, false, false, false, false, false, false, false, false, false]) (l' := #[true, true, true, true, false, false, false, false, false, false, false, false, false, false, false, false, false]) (i := 3) (d := some 98) (v := ?_) (by kernel_rfl) rfl (by kernel_rfl) (by kernel_rfl) (by kernel_rfl) (fun _ _ _ h => h) (Or.inl ⟨by rfl, ?_⟩) hS ?_
            rotate_left
            · (intro w0 hw0; obtain ⟨k1, k2⟩ := HSF w0 hw0; go_simp; try with_reducible rfl)
            try simp only [Act.put, List.setIfInBounds_toArray, List.set_cons_zero, List.set_cons_succ]
            refine AnyT.takeL (l := #[true, true, true, true, false, false, false, false, false, false, false, false, false, false, false, false, false]) (l' := #[true, true, true, true, true, false, false, false, false, false, false, false, false, false, false, false, false]) (i := 4) (d := some 99) (v := ?_) (by kernel_rfl) rfl (by kernel_rfl) (by kernel_rfl) (by kernel_rfl) (fun _ _ _ h => h) (Or.inl ⟨by rfl, ?_⟩) hS ?_
            rotate_left
            · (intro w0 hw0; obtain ⟨k1, k2⟩ := HSF w0 hw0; go_simp; try with_reducible rfl)
            try simp only [Act.put, List.setIfInBounds_toArray, List.set_cons_zero, List.set_cons_succ]
            refine AnyT.takeL (l := #[true, true, true, true, true, false, false, false, false, false, false, false, false, false, false, false, false]) (l' := #[true, true, true, true, true, true, false, false, false, false, false, false, false, false, false, false, false]) (i := 5) (d := some 100) (v := ?_) (by kernel_rfl) rfl (by kernel_rfl) (by kernel_rfl) (by kernel_rfl) (fun _ _ _ h => h) (Or.inl ⟨by rfl, ?_⟩) hS ?_
            rotate_left
            · (intro w0 hw0; obtain ⟨k1, k2⟩ := HSF w0 hw0; go_simp; try with_reducible rfl)
            try simp only [Act.put, List.setIfInBounds_toArray, List.set_cons_zero, List.set_cons_succ]
            refine AnyT.takeL (l := #[true, true, true, true, true, true, false, false, false, false, false, false, false, false, false, false, false]) (l' := #[true, true, true, true, true, true, true, false, false, false, false, false, false, false, false, false, false]) (i := 6) (d := some 101) (v := ?_) (by kernel_rfl) rfl (by kernel_rfl) (by kernel_rfl) (by kernel_rfl) (fun _ _ _ h => h) (Or.inl ⟨by rfl, ?_⟩) hS ?_
            rotate_left
            · (intro w0 hw0; obtain ⟨k1, k2⟩ := HSF w0 hw0; go_simp; try with_reducible rfl)
            try simp only [Act.put, List.setIfInBounds_toArray, List.set_cons_zero, List.set_cons_succ]
            refine AnyT.takeL (l := #[true, true, true, true, true, true, true, false, false, false, false, false, false, false, false, false, false]) (l' := #[true, true, true, true, true, true, true, true, false, false, false, false, false, false, false, false, false]) (i := 7) (d := some 102) (v := ?_) (by kernel_rfl) rfl (by kernel_rfl) (by kernel_rfl) (by kernel_rfl) (fun _ _ _ h => h) (Or.inl ⟨by rfl, ?_⟩) hS ?_
            rotate_left
            · (intro w0 hw0; obtain ⟨k1, k2⟩ := HSF w0 hw0; go_simp; try with_reducible rfl)
            try simp only [Act.put, List.setIfInBounds_toArray, List.set_cons_zero, List.set_cons_succ]
            refine AnyT.takeL (l := #[true, true, true, true, true, true, true, true, false, false, false, false, false, false, false, false, false]) (l' := #[true, true, true, true, true, true, true, true, true, false, false, false, false, false, false, false, false]) (i := 8) (d := some 103) (v := ?_) (by kernel_rfl) rfl (by kernel_rfl) (by kernel_rfl) (by kernel_rfl) (fun _ _ _ h => h) (Or.inl ⟨by rfl, ?_⟩) hS ?_
            rotate_left
            · (intro w0 hw0; obtain ⟨k1, k2⟩ := HSF w0 hw0; go_simp; try with_reducible rfl)
            try simp only [Act.put, List.setIfInBounds_toArray, List.set_cons_zero, List.set_cons_succ]
            refine AnyT.takeL (l := #[true, true, true, true, true, true, true, true, true, false, false, false, false, false, false, false, false]) (l' := #[true, true, true, true, true, true, true, true, true, true, false, false, false, false, false, false, false]) (i := 9) (d := some 104) (v := ?_) (by kernel_rfl) rfl (by kernel_rfl) (by kernel_rfl) (by kernel_rfl) (fun _ _ _ h => h) (Or.inl ⟨by rfl, ?_⟩) hS ?_
            rotate_left
            · (intro w0 hw0; obtain ⟨k1, k2⟩ := HSF w0 hw0; go_simp; try with_reducible rfl)
            try simp only [Act.put, List.setIfInBounds_toArray, List.set_cons_zero, List.set_cons_succ]
            refine AnyT.takeL (l := #[true, true, true, true, true, true, true, true, true, true, false, false, false, false, false, false, false]) (l' := #[true, true, true, true, true, true, true, true, true, true, true, false, false, false, false, false, false]) (i := 10) (d := some 105) (v := ?_) (by kernel_rfl) rfl (by kernel_rfl) (by kernel_rfl) (by kernel_rfl) (fun _ _ _ h => h) (Or.inl ⟨by rfl, ?_⟩) hS ?_
            rotate_left
            · (intro w0 hw0; obtain ⟨k1, k2⟩ := HSF w0 hw0; go_simp; try with_reducible rfl)
            try simp only [Act.put, List.setIfInBounds_toArray, List.set_cons_zero, List.set_cons_succ]
            refine AnyT.takeL (l := #[true, true, true, true, true, true, true, true, true, true, true, false, false, false, false, false, false]) (l' := #[true, true, true, true, true, true, true, true, true, true, true, true, false, false, false, false, false]) (i := 11) (d := some 106) (v := ?_) (by kernel_rfl) rfl (by kernel_rfl) (by kernel_rfl) (by kernel_rfl) (fun _ _ _ h => h) (Or.inl ⟨by rfl, ?_⟩) hS ?_
            rotate_left
            · (intro w0 hw0; obtain ⟨k1, k2⟩ := HSF w0 hw0; go_simp; try with_reducible rfl)
            try simp only [Act.put, List.setIfInBounds_toArray, List.set_cons_zero, List.set_cons_succ]
            refine AnyT.onlyL (l := #[true, true, true, true, true, true, true, true, true, true, true, true, false, false, false, false, false]) (l' := #[true, true, true, true, true, true, true, true, true, true, true, true, true, false, false, false, false]) (i := 12) (by kernel_rfl) rfl (by kernel_rfl) (fun K hK => ?_)
            go_simp
            have M18 := Lib.hid ((M16.out.skip (.cells #[.int .i64 (k : Int), .string s1] 38)).drew)
            have hS18 : ((w16.alloc (.cells #[.int .i64 (k : Int), .string s1] 38)).drew).cell? ⟨w5.heap.size, 1, none⟩ = some (.slice (some ⟨g, 0, none⟩) nn cn') ∧ ((w16.alloc (.cells #[.int .i64 (k : Int), .string s1] 38)).drew).cell? ⟨g, jn * 4 + 3, none⟩ = some (.slice A n cp) := ⟨(M18.out.box2 0 rfl).1.2, (M18.out.cellAt 4 rfl nrC_len (by decide) HYL.out (j := 3) (by decide)).2 _ rfl⟩
            refine hK.out _ _ (.inr hS18) ?_
            try simp only [Act.put, List.setIfInBounds_toArray, List.set_cons_zero, List.set_cons_succ]
            clear hK K
            refine AnyT.onlyL (l := #[true, true, true, true, true, true, true, true, true, true, true, true, true, false, false, false, false]) (l' := #[true, true, true, true, true, true, true, true, true, true, true, true, true, true, false, false, false]) (i := 13) (by kernel_rfl) rfl (by kernel_rfl) (fun K hK => ?_)
            refine Mem.step_apps M18.out (jn + 5) (show _ = some (Ck.row 38 2 dlC w.heap.size (.slice A n cp) (rkTo T cx.ds x.ds jn x.par k)) from dRows_at HYL.out HXL.out) (by rfl) _ _ _ (by rfl) _ 24 Try.underlying34 SlcDl.info (by rfl) (by decide) dlC_len dlC_one [⟨(k : Int), s1⟩] ⟨w16.heap.size, 0, none⟩ 1 _ (by rfl) (by rfl) rfl (by decide) (cells_new _ (by simp) _ _) n HN.out (by omega) (by decide) ?_
            intro g7 cap7 w19 M19x
            have M19 := Lib.hid M19x
            clear M19x
            have hS19 : w19.cell? ⟨w5.heap.size, 1, none⟩ = some (.slice (some ⟨g, 0, none⟩) nn cn') ∧ w19.cell? ⟨g, jn * 4 + 3, none⟩ = some (.slice A n cp) := ⟨(M19.out.box2 0 rfl).1.2, (M19.out.cellAt 4 rfl nrC_len (by decide) HYL.out (j := 3) (by decide)).2 _ rfl⟩
            refine hK.out _ _ (.inr hS19) ?_
            try simp only [Act.put, List.setIfInBounds_toArray, List.set_cons_zero, List.set_cons_succ]
            clear hK K hS hS18 M16 M17 M18
            refine AnyT.takeL (l := #[true, true, true, true, true, true, true, true, true, true, true, true, true, true, false, false, false]) (l' := #[true, true, true, true, true, true, true, true, true, true, true, true, true, true, true, false, false]) (i := 14) (d := some 109) (v := ?_) (by kernel_rfl) rfl (by kernel_rfl) (by kernel_rfl) (by kernel_rfl) (fun _ _ _ h => h) (Or.inl ⟨by rfl, ?_⟩) hS19 ?_
            rotate_left
            · (intro w0 hw0; obtain ⟨k1, k2⟩ := HSF w0 hw0; go_simp; try with_reducible rfl)
            try simp only [Act.put, List.setIfInBounds_toArray, List.set_cons_zero, List.set_cons_succ]
            refine AnyT.takeL (l := #[true, true, true, true, true, true, true, true, true, true, true, true, true, true, true, false, false]) (l' := #[true, true, true, true, true, true, true, true, true, true, true, true, true, true, true, true, false]) (i := 15) (d := some 110) (v := ?_) (by kernel_rfl) rfl (by kernel_rfl) (by kernel_rfl) (by kernel_rfl) (fun _ _ _ h => h) (Or.inl ⟨by rfl, ?_⟩) hS19 ?_
            rotate_left
            · (intro w0 hw0; obtain ⟨k1, k2⟩ := HSF w0 hw0; go_simp; try with_reducible rfl)
            try simp only [Act.put, List.setIfInBounds_toArray, List.set_cons_zero, List.set_cons_succ]
            refine AnyT.onlyL (l := #[true, true, true, true, true, true, true, true, true, true, true, true, true, true, true, true, false]) (l' := #[true, true, true, true, true, true, true, true, true, true, true, true, true, true, true, true, true]) (i := 16) (by kernel_rfl) rfl (by kernel_rfl) (fun K hK => ?_)
            have z9 := hS19.2
            have z9f : w19.frozen? ⟨g, jn * 4 + 3, none⟩ = false := (M19.out.cellAt 4 rfl nrC_len (by decide) HYL.out (j := 3) (by decide)).1
            clear HSF
            go_simp
            refine hK.out _ _ (.inl rfl) ?_
            refine AnyT.done (by kernel_rfl) ?_ _
            have M20 := Lib.hid (mem_dset M19.out HYL.out HXL.out)
            rw [List.set_set, setDs_setDs] at M20
            go_wp2
            go_roundw
            case rel => exact ⟨k + 1, n + 1, some ⟨g7, 0, none⟩, cap7, by go_num, by omega, by rw [HS.out, List.length_append, HN.out]; rfl, by rw [HS.out]; exact M20.out⟩
            case measure => (simp [intOf]) <;> omega
        cases m2
        rotate_left
        · obtain ⟨is, his⟩ : ∃ q, decide (¬ s1 = s2) = q := ⟨_, rfl⟩
          cases is
          · have hnb := neq_f his
            have HS : Hid ((rkTo T cx.ds x.ds jn x.par (k + 1)) = (rkTo T cx.ds x.ds jn x.par k)) := show _ = _ by rw [HNX.out false (by rw [HKB.out, his]; rfl)]; simp
            clear his
            obtain ⟨⟨c0, c1⟩, ⟨cf0, cf1⟩, clt⟩ := M12.out.box2 1 rfl
            go_wp2_with fail
            go_at_call 50
            refine (HC1.out _ M12.out.held).mono ?_
            rintro e w13 ⟨rfl, h13⟩
            have M13 := Lib.hid (M12.out.keep h13)
            clear h13 c0 c1 cf0 cf1 clt
            obtain ⟨⟨c0, c1⟩, ⟨cf0, cf1⟩, clt⟩ := M13.out.box2 1 rfl
            go_wp2_with fail
            go_at_call 50
            refine (HC2.out _ M13.out.held).mono ?_
            rintro e w14 ⟨rfl, h14⟩
            have M14 := Lib.hid (M13.out.keep h14)
            clear h14 c0 c1 cf0 cf1 clt
            obtain ⟨⟨c0, c1⟩, ⟨cf0, cf1⟩, clt⟩ := M14.out.box2 1 rfl
            go_wp2_with fail
            go_at_call 47
            refine (HS1.out _ M14.out.held).mono ?_
            rintro e w15 ⟨rfl, h15⟩
            have M15 := Lib.hid (M14.out.keep h15)
            clear h15 c0 c1 cf0 cf1 clt
            obtain ⟨⟨c0, c1⟩, ⟨cf0, cf1⟩, clt⟩ := M15.out.box2 1 rfl
            go_wp2_with fail
            go_at_call 47
            refine (HS2.out _ M15.out.held).mono ?_
            rintro e w16 ⟨rfl, h16⟩
            have M16 := Lib.hid (M15.out.keep h16)
            clear h16 c0 c1 cf0 cf1 clt
            obtain ⟨⟨c0, c1⟩, ⟨cf0, cf1⟩, clt⟩ := M16.out.box2 1 rfl
            go_wp2
            go_roundw
            case rel => exact ⟨k + 1, n, A, cp, by go_num, by omega, by rw [HS.out, HN.out], by rw [HS.out]; exact M16.out⟩
            case measure => (simp [intOf]) <;> omega
          · have hnb := neq_t his
            have HS : Hid ((rkTo T cx.ds x.ds jn x.par (k + 1)) = (rkTo T cx.ds x.ds jn x.par k) ++ [⟨(k : Int), s1⟩]) := show _ = _ by rw [HNX.out true (by rw [HKB.out, his]; rfl)]; simp
            clear his
            obtain ⟨⟨c0, c1⟩, ⟨cf0, cf1⟩, clt⟩ := M12.out.box2 1 rfl
            go_wp2_with fail
            go_at_call 50
            refine (HC1.out _ M12.out.held).mono ?_
            rintro e w13 ⟨rfl, h13⟩
            have M13 := Lib.hid (M12.out.keep h13)
            clear h13 c0 c1 cf0 cf1 clt
            obtain ⟨⟨c0, c1⟩, ⟨cf0, cf1⟩, clt⟩ := M13.out.box2 1 rfl
            go_wp2_with fail
            go_at_call 50
            refine (HC2.out _ M13.out.held).mono ?_
            rintro e w14 ⟨rfl, h14⟩
            have M14 := Lib.hid (M13.out.keep h14)
            clear h14 c0 c1 cf0 cf1 clt
            obtain ⟨⟨c0, c1⟩, ⟨cf0, cf1⟩, clt⟩ := M14.out.box2 1 rfl
            go_wp2_with fail
            go_at_call 47
            refine (HS1.out _ M14.out.held).mono ?_
            rintro e w15 ⟨rfl, h15⟩
            have M15 := Lib.hid (M14.out.keep h15)
            clear h15 c0 c1 cf0 cf1 clt
            obtain ⟨⟨c0, c1⟩, ⟨cf0, cf1⟩, clt⟩ := M15.out.box2 1 rfl
            go_wp2_with fail
            go_at_call 47
            refine (HS2.out _ M15.out.held).mono ?_
            rintro e w16 ⟨rfl, h16⟩
            have M16 := Lib.hid (M15.out.keep h16)
            clear h16 c0 c1 cf0 cf1 clt
            obtain ⟨⟨c0, c1⟩, ⟨cf0, cf1⟩, clt⟩ := M16.out.box2 1 rfl
            go_wp2_with fail
            have hyL : ((R.set jn ({ cy with par := x.par } : Nr)).set jn { ({ cy with par := x.par } : Nr) with A := A, n := n, cap := cp })[jn]? = some { ({ cy with par := x.par } : Nr) with A := A, n := n, cap := cp } := List.getElem?_set_self (by rw [List.length_set]; exact (List.getElem?_eq_some_iff.1 hcy).1)
            have hxL : (setDs (upd T.nodes jn (fun z => { z with par := x.par })) jn (rkTo T cx.ds x.ds jn x.par k))[jn]? = some { cx with par := x.par, ds := (rkTo T cx.ds x.ds jn x.par k) } := by rw [setDs_at (x := { cx with par := x.par }) (by rw [upd_at, if_pos rfl, HCX.out]; rfl), if_pos rfl]
            have HXL := Lib.hid hxL
            have HYL := Lib.hid hyL
            clear hyL hxL
            obtain ⟨⟨f0, f1⟩, ⟨ff0, ff1⟩, flt⟩ := M16.out.box2 0 rfl
            have z3 : w16.cell? ⟨g, jn * 4 + 3, none⟩ = some (.slice A n cp) := (M16.out.cellAt 4 rfl nrC_len (by decide) HYL.out (j := 3) (by decide)).2 _ rfl
            have z3f : w16.frozen? ⟨g, jn * 4 + 3, none⟩ = false := (M16.out.cellAt 4 rfl nrC_len (by decide) HYL.out (j := 3) (by decide)).1
            have HSF : ∀ w' : World, (w'.cell? ⟨w5.heap.size, 1, none⟩ = some (.slice (some ⟨g, 0, none⟩) nn cn') ∧ w'.cell? ⟨g, jn * 4 + 3, none⟩ = some (.slice A n cp)) → (w'.cell? ⟨w5.heap.size, 1, none⟩ = some (.slice (some ⟨g, 0, none⟩) nn cn') ∧ w'.cell? ⟨g, jn * 4 + 3, none⟩ = some (.slice A n cp)) := fun w' q => q
            have hS : w16.drew.cell? ⟨w5.heap.size, 1, none⟩ = some (.slice (some ⟨g, 0, none⟩) nn cn') ∧ w16.drew.cell? ⟨g, jn * 4 + 3, none⟩ = some (.slice A n cp) := ⟨(Held.refl w16).drew.cell f1, (Held.refl w16).drew.cell z3⟩
            have M17 := Lib.hid (M16.out.drew)
            clear f0 f1 ff0 ff1 flt c0 c1 cf0 cf1 clt z3 z3f
            refine AnyT.startL (S := (fun w' : World => w'.cell? ⟨w5.heap.size, 1, none⟩ = some (.slice (some ⟨g, 0, none⟩) nn cn') ∧ w'.cell? ⟨g, jn * 4 + 3, none⟩ = some (.slice A n cp))) 16 (l := #[false, false, false, false, false, false, false, false, false, false, false, false, false, false, false, false, false]) (f := 17) (by kernel_rfl) (by kernel_rfl) (by kernel_rfl) ?_
            refine AnyT.takeL (l := #[false, false, false, false, false, false, false, false, false, false, false, false, false, false, false, false, false]) (l' := #[true, false, false, false, false, false, false, false, false, false, false, false, false, false, false, false, false]) (i := 0) (d := some 95) (v := ?_) (by kernel_rfl) rfl (by kernel_rfl) (by kernel_rfl) (by kernel_rfl) (fun _ _ _ h => h) (Or.inl ⟨by rfl, ?_⟩) hS ?_
            rotate_left
            · (intro w0 hw0; obtain ⟨k1, k2⟩ := HSF w0 hw0; go_simp; try with_reducible rfl)
            try simp only [Act.put, List.setIfInBounds_toArray, List.set_cons_zero, List.set_cons_succ]
            refine AnyT.takeL (l := #[true, false, false, false, false, false, false, false, false, false, false, false, false, false, false, false, false]) (l' := #[true, true, false, false, false, false, false, false, false, false, false, false, false, false, false, false, false]) (i := 1) (d := some 96) (v := ?_) (by kernel_rfl) rfl (by kernel_rfl) (by kernel_rfl) (by kernel_rfl) (fun _ _ _ h => h) (Or.inl ⟨by rfl, ?_⟩) hS ?_
            rotate_left
            · (intro w0 hw0; obtain ⟨k1, k2⟩ := HSF w0 hw0; go_simp; try with_reducible rfl)
            try simp only [Act.put, List.setIfInBounds_toArray, List.set_cons_zero, List.set_cons_succ]
            refine AnyT.takeL (l := #[true, true, false, false, false, false, false, false, false, false, false, false, false, false, false, false, false]) (l' := #[true, true, true, false, false, false, false, false, false, false, false, false, false, false, false, false, false]) (i := 2) (d := some 97) (v := ?_) (by kernel_rfl) rfl (by kernel_rfl) (by kernel_rfl) (by kernel_rfl) (fun _ _ _ h => h) (Or.inl ⟨by rfl, ?_⟩) hS ?_
            rotate_left
            · (intro w0 hw0; obtain ⟨k1, k2⟩ := HSF w0 hw0; go_simp; try with_reducible rfl)
            try simp only [Act.put, List.setIfInBounds_toArray, List.set_cons_zero, List.set_cons_succ]
            refine AnyT.takeL (l := #[true, true, true, false, false, false, false, false, false, false, false, false, false, false, false, false, false]) (l' := #[true, true, true, true, false, false, false, false, false, false, false, false, false, false, false, false, false]) (i := 3) (d := some 98) (v := ?_) (by kernel_rfl) rfl (by kernel_rfl) (by kernel_rfl) (by kernel_rfl) (fun _ _ _ h => h) (Or.inl ⟨by rfl, ?_⟩) hS ?_
            rotate_left
            · (intro w0 hw0; obtain ⟨k1, k2⟩ := HSF w0 hw0; go_simp; try with_reducible rfl)
            try simp only [Act.put, List.setIfInBounds_toArray, List.set_cons_zero, List.set_cons_succ]
            refine AnyT.takeL (l := #[true, true, true, true, false, false, false, false, false, false, false, false, false, false, false, false, false]) (l' := #[true, true, true, true, true, false, false, false, false, false, false, false, false, false, false, false, false]) (i := 4) (d := some 99) (v := ?_) (by kernel_rfl) rfl (by kernel_rfl) (by kernel_rfl) (by kernel_rfl) (fun _ _ _ h => h) (Or.inl ⟨by rfl, ?_⟩) hS ?_
            rotate_left
            · (intro w0 hw0; obtain ⟨k1, k2⟩ := HSF w0 hw0; go_simp; try with_reducible rfl)
            try simp only [Act.put, List.setIfInBounds_toArray, List.set_cons_zero, List.set_cons_succ]
            refine AnyT.takeL (l := #[true, true, true, true, true, false, false, false, false, false, false, false, false, false, false, false, false]) (l' := #[true, true, true, true, true, true, false, false, false, false, false, false, false, false, false, false, false]) (i := 5) (d := some 100) (v := ?_) (by kernel_rfl) rfl (by kernel_rfl) (by kernel_rfl) (by kernel_rfl) (fun _ _ _ h => h) (Or.inl ⟨by rfl, ?_⟩) hS ?_
            rotate_left
            · (intro w0 hw0; obtain ⟨k1, k2⟩ := HSF w0 hw0; go_simp; try with_reducible rfl)
            try simp only [Act.put, List.setIfInBounds_toArray, List.set_cons_zero, List.set_cons_succ]
            refine AnyT.takeL (l := #[true, true, true, true, true, true, false, false, false, false, false, false, false, false, false, false, false]) (l' := #[true, true, true, true, true, true, true, false, false, false, false, false, false, false, false, false, false]) (i := 6) (d := some 101) (v := ?_) (by kernel_rfl) rfl (by kernel_rfl) (by kernel_rfl) (by kernel_rfl) (fun _ _ _ h => h) (Or.inl ⟨by rfl, ?_⟩) hS ?_
            rotate_left
            · (intro w0 hw0; obtain ⟨k1, k2⟩ := HSF w0 hw0; go_simp; try with_reducible rfl)
            try simp only [Act.put, List.setIfInBounds_toArray, List.set_cons_zero, List.set_cons_succ]
            refine AnyT.takeL (l := #[true, true, true, true, true, true, true, false, false, false, false, false, false, false, false, false, false]) (l' := #[true, true, true, true, true, true, true, true, false, false, false, false, false, false, false, false, false]) (i := 7) (d := some 102) (v := ?_) (by kernel_rfl) rfl (by kernel_rfl) (by kernel_rfl) (by kernel_rfl) (fun _ _ _ h => h) (Or.inl ⟨by rfl, ?_⟩) hS ?_
            rotate_left
            · (intro w0 hw0; obtain ⟨k1, k2⟩ := HSF w0 hw0; go_simp; try with_reducible rfl)
            try simp only [Act.put, List.setIfInBounds_toArray, List.set_cons_zero, List.set_cons_succ]
            refine AnyT.takeL (l := #[true, true, true, true, true, true, true, true, false, false, false, false, false, false, false, false, false]) (l' := #[true, true, true, true, true, true, true, true, true, false, false, false, false, false, false, false, false]) (i := 8) (d := some 103) (v := ?_) (by kernel_rfl) rfl (by kernel_rfl) (by kernel_rfl) (by kernel_rfl) (fun _ _ _ h => h) (Or.inl ⟨by rfl, ?_⟩) hS ?_
            rotate_left
            · (intro w0 hw0; obtain ⟨k1, k2⟩ := HSF w0 hw0; go_simp; try with_reducible rfl)
            try simp only [Act.put, List.setIfInBounds_toArray, List.set_cons_zero, List.set_cons_succ]
            refine AnyT.takeL (l := #[true, true, true, true, true, true, true, true, true, false, false, false, false, false, false, false, false]) (l' := #[true, true, true, true, true, true, true, true, true, true, false, false, false, false, false, false, false]) (i := 9) (d := some 104) (v := ?_) (by kernel_rfl) rfl (by kernel_rfl) (by kernel_rfl) (by kernel_rfl) (fun _ _ _ h => h) (Or.inl ⟨by rfl, ?_⟩) hS ?_
            rotate_left
            · (intro w0 hw0; obtain ⟨k1, k2⟩ := HSF w0 hw0; go_simp; try with_reducible rfl)
            try simp only [Act.put, List.setIfInBounds_toArray, List.set_cons_zero, List.set_cons_succ]
            refine AnyT.takeL (l := #[true, true, true, true, true, true, true, true, true, true, false, false, false, false, false, false, false]) (l' := #[true, true, true, true, true, true, true, true, true, true, true, false, false, false, false, false, false]) (i := 10) (d := some 105) (v := ?_) (by kernel_rfl) rfl (by kernel_rfl) (by kernel_rfl) (by kernel_rfl) (fun _ _ _ h => h) (Or.inl ⟨by rfl, ?_⟩) hS ?_
            rotate_left
            · (intro w0 hw0; obtain ⟨k1, k2⟩ := HSF w0 hw0; go_simp; try with_reducible rfl)
            try simp only [Act.put, List.setIfInBounds_toArray, List.set_cons_zero, List.set_cons_succ]
            refine AnyT.takeL (l := #[true, true, true, true, true, true, true, true, true, true, true, false, false, false, false, false, false]) (l' := #[true, true, true, true, true, true, true, true, true, true, true, true, false, false, false, false, false]) (i := 11) (d := some 106) (v := ?_) (by kernel_rfl) rfl (by kernel_rfl) (by kernel_rfl) (by kernel_rfl) (fun _ _ _ h => h) (Or.inl ⟨by rfl, ?_⟩) hS ?_
            rotate_left
            · (intro w0 hw0; obtain ⟨k1, k2⟩ := HSF w0 hw0; go_simp; try with_reducible rfl)
            try simp only [Act.put, List.setIfInBounds_toArray, List.set_cons_zero, List.set_cons_succ]
            refine AnyT.onlyL (l := #[true, true, true, true, true, true, true, true, true, true, true, true, false, false, false, false, false]) (l' := #[true, true, true, true, true, true, true, true, true, true, true, true, true, false, false, false, false]) (i := 12) (by kernel_rfl) rfl (by kernel_rfl) (fun K hK => ?_)
            go_simp
            have M18 := Lib.hid ((M16.out.skip (.cells #[.int .i64 (k : Int), .string s1] 38)).drew)
            have hS18 : ((w16.alloc (.cells #[.int .i64 (k : Int), .string s1] 38)).drew).cell? ⟨w5.heap.size, 1, none⟩ = some (.slice (some ⟨g, 0, none⟩) nn cn') ∧ ((w16.alloc (.cells #[.int .i64 (k : Int), .string s1] 38)).drew).cell? ⟨g, jn * 4 + 3, none⟩ = some (.slice A n cp) := ⟨(M18.out.box2 0 rfl).1.2, (M18.out.cellAt 4 rfl nrC_len (by decide) HYL.out (j := 3) (by decide)).2 _ rfl⟩
            refine hK.out _ _ (.inr hS18) ?_
            try simp only [Act.put, List.setIfInBounds_toArray, List.set_cons_zero, List.set_cons_succ]
            clear hK K
            refine AnyT.onlyL (l := #[true, true, true, true, true, true, true, true, true, true, true, true, true, false, false, false, false]) (l' := #[true, true, true, true, true, true, true, true, true, true, true, true, true, true, false, false, false]) (i := 13) (by kernel_rfl) rfl (by kernel_rfl) (fun K hK => ?_)
            refine Mem.step_apps M18.out (jn + 5) (show _ = some (Ck.row 38 2 dlC w.heap.size (.slice A n cp) (rkTo T cx.ds x.ds jn x.par k)) from dRows_at HYL.out HXL.out) (by rfl) _ _ _ (by rfl) _ 24 Try.underlying34 SlcDl.info (by rfl) (by decide) dlC_len dlC_one [⟨(k : Int), s1⟩] ⟨w16.heap.size, 0, none⟩ 1 _ (by rfl) (by rfl) rfl (by decide) (cells_new _ (by simp) _ _) n HN.out (by omega) (by decide) ?_
            intro g7 cap7 w19 M19x
            have M19 := Lib.hid M19x
            clear M19x
            have hS19 : w19.cell? ⟨w5.heap.size, 1, none⟩ = some (.slice (some ⟨g, 0, none⟩) nn cn') ∧ w19.cell? ⟨g, jn * 4 + 3, none⟩ = some (.slice A n cp) := ⟨(M19.out.box2 0 rfl).1.2, (M19.out.cellAt 4 rfl nrC_len (by decide) HYL.out (j := 3) (by decide)).2 _ rfl⟩
            refine hK.out _ _ (.inr hS19) ?_
            try simp only [Act.put, List.setIfInBounds_toArray, List.set_cons_zero, List.set_cons_succ]
            clear hK K hS hS18 M16 M17 M18
            refine AnyT.takeL (l := #[true, true, true, true, true, true, true, true, true, true, true, true, true, true, false, false, false]) (l' := #[true, true, true, true, true, true, true, true, true, true, true, true, true, true, true, false, false]) (i := 14) (d := some 109) (v := ?_) (by kernel_rfl) rfl (by kernel_rfl) (by kernel_rfl) (by kernel_rfl) (fun _ _ _ h => h) (Or.inl ⟨by rfl, ?_⟩) hS19 ?_
            rotate_left
            · (intro w0 hw0; obtain ⟨k1, k2⟩ := HSF w0 hw0; go_simp; try with_reducible rfl)
            try simp only [Act.put, List.setIfInBounds_toArray, List.set_cons_zero, List.set_cons_succ]
            refine AnyT.takeL (l := #[true, true, true, true, true, true, true, true, true, true, true, true, true, true, true, false, false]) (l' := #[true, true, true, true, true, true, true, true, true, true, true, true, true, true, true, true, false]) (i := 15) (d := some 110) (v := ?_) (by kernel_rfl) rfl (by kernel_rfl) (by kernel_rfl) (by kernel_rfl) (fun _ _ _ h => h) (Or.inl ⟨by rfl, ?_⟩) hS19 ?_
            rotate_left
            · (intro w0 hw0; obtain ⟨k1, k2⟩ := HSF w0 hw0; go_simp; try with_reducible rfl)
            try simp only [Act.put, List.setIfInBounds_toArray, List.set_cons_zero, List.set_cons_succ]
            refine AnyT.onlyL (l := #[true, true, true, true, true, true, true, true, true, true, true, true, true, true, true, true, false]) (l' := #[true, true, true, true, true, true, true, true, true, true, true, true, true, true, true, true, true]) (i := 16) (by kernel_rfl) rfl (by kernel_rfl) (fun K hK => ?_)
            have z9 := hS19.2
            have z9f : w19.frozen? ⟨g, jn * 4 + 3, none⟩ = false := (M19.out.cellAt 4 rfl nrC_len (by decide) HYL.out (j := 3) (by decide)).1
            clear HSF
            go_simp
            refine hK.out _ _ (.inl rfl) ?_
            refine AnyT.done (by kernel_rfl) ?_ _
            have M20 := Lib.hid (mem_dset M19.out HYL.out HXL.out)
            rw [List.set_set, setDs_setDs] at M20
            go_wp2
            go_roundw
            case rel => exact ⟨k + 1, n + 1, some ⟨g7, 0, none⟩, cap7, by go_num, by omega, by rw [HS.out, List.length_append, HN.out]; rfl, by rw [HS.out]; exact M20.out⟩
            case measure => (simp [intOf]) <;> omega
        · have HS : Hid ((rkTo T cx.ds x.ds jn x.par (k + 1)) = (rkTo T cx.ds x.ds jn x.par k)) := show _ = _ by rw [HNX.out false (by rw [HKB.out]; rfl)]; simp
          obtain ⟨⟨c0, c1⟩, ⟨cf0, cf1⟩, clt⟩ := M12.out.box2 1 rfl
          go_wp2_with fail
          go_at_call 50
          refine (HC1.out _ M12.out.held).mono ?_
          rintro e w13 ⟨rfl, h13⟩
          have M13 := Lib.hid (M12.out.keep h13)
          clear h13 c0 c1 cf0 cf1 clt
          obtain ⟨⟨c0, c1⟩, ⟨cf0, cf1⟩, clt⟩ := M13.out.box2 1 rfl
          go_wp2_with fail
          go_at_call 50
          refine (HC2.out _ M13.out.held).mono ?_
          rintro e w14 ⟨rfl, h14⟩
          have M14 := Lib.hid (M13.out.keep h14)
          clear h14 c0 c1 cf0 cf1 clt
          obtain ⟨⟨c0, c1⟩, ⟨cf0, cf1⟩, clt⟩ := M14.out.box2 1 rfl
          go_wp2_with fail
          go_at_call 47
          refine (HS1.out _ M14.out.held).mono ?_
          rintro e w15 ⟨rfl, h15⟩
          have M15 := Lib.hid (M14.out.keep h15)
          clear h15 c0 c1 cf0 cf1 clt
          obtain ⟨⟨c0, c1⟩, ⟨cf0, cf1⟩, clt⟩ := M15.out.box2 1 rfl
          go_wp2
          go_roundw
          case rel => exact ⟨k + 1, n, A, cp, by go_num, by omega, by rw [HS.out, HN.out], by rw [HS.out]; exact M15.out⟩
          case measure => (simp [intOf]) <;> omega
      · obtain rfl : nb = k := by omega
        rw [HKA.out] at M12 HN
        obtain ⟨KD, hKD⟩ : ∃ q, kept T cx.ds x.ds x.par = q := ⟨_, rfl⟩
        rw [hKD] at M12 HN HKO
        clear hKD
        have hy11 : ((R.set jn ({ cy with par := x.par } : Nr)).set jn { ({ cy with par := x.par } : Nr) with A := A, n := n, cap := cp })[p]? = some y := by rw [List.getElem?_set_ne hjp, List.getElem?_set_ne hjp]; exact hy
        have hx11 : (setDs (upd T.nodes jn (fun z => { z with par := x.par })) jn KD)[p]? = some x := by rw [setDs_at (x := x) (by rw [upd_at, if_neg hjp]; exact HX.out), if_neg hjp]
        have HX11 := Lib.hid hx11
        have HE10 : NrsE (R.set jn ({ cy with par := x.par } : Nr)) (upd T.nodes jn (fun z => { z with par := x.par })) := HE.out.set HCX.out ⟨HCY.out.nm, rfl, HCY.out.op, HCY.out.n⟩
        have HE11 : NrsE ((R.set jn ({ cy with par := x.par } : Nr)).set jn { ({ cy with par := x.par } : Nr) with A := A, n := n, cap := cp }) (setDs (upd T.nodes jn (fun z => { z with par := x.par })) jn KD) := HE10.ds hcy10 HCX10.out A n cp KD HN.out.symm
        have HE12 := Lib.hid (HE11.gone hx11)
        clear hx11 HE10 HE11
        have s0 : wr.cell? ⟨g, p * 4, none⟩ = some (.string y.nm) := (M12.out.cellAt 4 rfl nrC_len (by decide) hy11 (j := 0) (by decide)).2 _ rfl
        have s0f : wr.frozen? ⟨g, p * 4, none⟩ = false := (M12.out.cellAt 4 rfl nrC_len (by decide) hy11 (j := 0) (by decide)).1
        have s1 : wr.cell? ⟨g, p * 4 + 1, none⟩ = some (.int .i64 y.par) := (M12.out.cellAt 4 rfl nrC_len (by decide) hy11 (j := 1) (by decide)).2 _ rfl
        have s1f : wr.frozen? ⟨g, p * 4 + 1, none⟩ = false := (M12.out.cellAt 4 rfl nrC_len (by decide) hy11 (j := 1) (by decide)).1
        have s2 : wr.cell? ⟨g, p * 4 + 2, none⟩ = some (.bool y.op) := (M12.out.cellAt 4 rfl nrC_len (by decide) hy11 (j := 2) (by decide)).2 _ rfl
        have s2f : wr.frozen? ⟨g, p * 4 + 2, none⟩ = false := (M12.out.cellAt 4 rfl nrC_len (by decide) hy11 (j := 2) (by decide)).1
        have s3 : wr.cell? ⟨g, p * 4 + 3, none⟩ = some (.slice y.A y.n y.cap) := (M12.out.cellAt 4 rfl nrC_len (by decide) hy11 (j := 3) (by decide)).2 _ rfl
        have s3f : wr.frozen? ⟨g, p * 4 + 3, none⟩ = false := (M12.out.cellAt 4 rfl nrC_len (by decide) hy11 (j := 3) (by decide)).1
        obtain ⟨⟨f0, f1⟩, ⟨ff0, ff1⟩, flt⟩ := M12.out.box2 0 rfl
        obtain ⟨⟨c0, c1⟩, ⟨cf0, cf1⟩, clt⟩ := M12.out.box2 1 rfl
        go_upto_region 21 with fail
        have M13 := Lib.hid (mem_gone M12.out hy11 HX11.out)
        obtain ⟨w13, hw13⟩ : ∃ q, q = ((((wr.setCell ⟨g, p * 4, none⟩ (.string ⟨#[]⟩)).setCell ⟨g, p * 4 + 1, none⟩ (.int .i64 (-1))).setCell ⟨g, p * 4 + 2, none⟩ (.bool false)).setCell ⟨g, p * 4 + 3, none⟩ (.slice none 0 0)) := ⟨_, rfl⟩
        rw [← hw13] at M13 ⊢
        clear hw13
        clear s0 s1 s2 s3 s0f s1f s2f s3f f0 f1 ff0 ff1 flt c0 c1 cf0 cf1 clt
        obtain ⟨⟨t0, t1⟩, ⟨tf0, tf1⟩, tlt⟩ := M13.out.box2 0 rfl
        by_cases hup : x.par < 0
        · have hup2 : ¬ 0 ≤ x.par := by omega
          have M20 := Lib.hid ((M13.out.put 2 rfl 0 (.slice Ab nb cb)).put 2 rfl 1 (.slice (some ⟨g, 0, none⟩) nn cn'))
          obtain ⟨⟨r0, r1⟩, ⟨rf0, rf1⟩, rlt⟩ := M13.out.box2 0 rfl
          obtain ⟨⟨q0, q1⟩, ⟨qf0, qf1⟩, qlt⟩ := M13.out.box2 2 rfl
          go_wp2
          refine bodyPost_ret (Bx.res_ct Try.results32 rfl (TB.load (M20.out.blk 2 rfl) rfl rfl)) rfl ?_
          exact DnR.yes (N := (gone (setDs (upd T.nodes jn (fun z => { z with par := x.par })) jn KD) p)) HP.out (by rw [HD.out, HKO.out, ← del_kid hjp]) (mixTr (cn := cn') (R := (((R.set jn ({ cy with par := x.par } : Nr)).set jn { ({ cy with par := x.par } : Nr) with A := A, n := n, cap := cp }).set p ⟨⟨#[]⟩, -1, false, none, 0, 0⟩)) HTR.out.bs HTR.out.bnil ⟨M20.out.rest.rest.rest, HE12.out⟩) M20.out.held
        · obtain ⟨u, hu⟩ := Int.eq_ofNat_of_zero_le (by omega : 0 ≤ x.par)
          rw [hu] at hpar ⊢
          have HU := Lib.hid hu
          have hun : (u : Int) < (nn : Int) := by omega
          have HCH2 := Lib.hid (rkids_any Ab nb cb (some ⟨g, 0, none⟩) nn cn' ⟨T.base, (gone (setDs (upd T.nodes jn (fun z => { z with par := x.par })) jn KD) p)⟩ u w13 (mixTr (cn := cn') HTR.out.bs HTR.out.bnil ⟨M13.out.rest.rest.rest, HE12.out⟩) hn12')
          obtain ⟨K2, hK2⟩ : ∃ q, kids ((gone (setDs (upd T.nodes jn (fun z => { z with par := x.par })) jn KD) p)) u = q := ⟨_, rfl⟩
          have HK2 := Lib.hid hK2
          obtain ⟨ln, hln⟩ : ∃ q, K2.length = q := ⟨_, rfl⟩
          have HLN := Lib.hid hln
          clear hK2 hu hln hup
          by_cases hl0 : ln = 0
          · exact absurd (show (kids ((gone (setDs (upd T.nodes jn (fun z => { z with par := x.par })) jn KD) p)) u).isEmpty = true by rw [HK2.out, List.eq_nil_of_length_eq_zero (HLN.out.trans hl0)]; rfl) (by rw [show kids (gone (setDs (upd T.nodes jn (fun z => { z with par := x.par })) jn KD) p) (u : Int) = kids (gone (setDs (upd T.nodes jn (fun z => { z with par := x.par })) jn KD) p) x.par from congrArg _ HU.out.symm, gone_kid HCX.out hcl2 hjp]; simp)
          · have hl1 : ((ln : Int) == 0) = false := by simp; omega
            have hl2 : (kids ((gone (setDs (upd T.nodes jn (fun z => { z with par := x.par })) jn KD) p)) u).isEmpty = false := by rw [HK2.out]; cases K2 with | nil => exact absurd HLN.out.symm hl0 | cons a l => rfl
            have HEM := Lib.hid hl2
            clear hl2
            go_wp2_with (go_at_call 49; refine HCH2.out.mono ?_; rintro e w30 ⟨A30, cap30, rfl, hc30, ho30, h30⟩; rw [HK2.out, HLN.out] at hc30 ⊢; clear ho30; have M30 := Lib.hid (M13.out.keep h30); obtain ⟨⟨r0, r1⟩, ⟨rf0, rf1⟩, rlt⟩ := M30.out.box2 0 rfl; obtain ⟨⟨q0, q1⟩, ⟨qf0, qf1⟩, qlt⟩ := M30.out.box2 2 rfl)
            have M32 := Lib.hid M30.out
            have M20 := Lib.hid ((M32.out.put 2 rfl 0 (.slice Ab nb cb)).put 2 rfl 1 (.slice (some ⟨g, 0, none⟩) nn cn'))
            go_wp2
            refine bodyPost_ret (Bx.res_ct Try.results32 rfl (TB.load (M20.out.blk 2 rfl) rfl rfl)) rfl ?_
            exact DnR.yes (N := (gone (setDs (upd T.nodes jn (fun z => { z with par := x.par })) jn KD) p)) HP.out (by rw [HD.out, HKO.out, ← del_kid hjp]) (mixTr (cn := cn') (R := (((R.set jn ({ cy with par := x.par } : Nr)).set jn { ({ cy with par := x.par } : Nr) with A := A, n := n, cap := cp }).set p ⟨⟨#[]⟩, -1, false, none, 0, 0⟩)) HTR.out.bs HTR.out.bnil ⟨M20.out.rest.rest.rest, HE12.out⟩) M20.out.held
end Sn
end Go.Proofs.Ytncgihbnfmpdbaa
