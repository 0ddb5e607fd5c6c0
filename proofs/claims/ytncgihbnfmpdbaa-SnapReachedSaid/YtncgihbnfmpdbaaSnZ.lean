/-
  Contracts: Delete (chapter 41), of the program.
-/
import Derived.Test.YtncgihbnfmpdbaaSnY
import Derived.Deep.DeepCutAuto
set_option linter.unusedVariables false
set_option linter.unusedSimpArgs false
set_option maxRecDepth 100000
namespace Go.Proofs.Ytncgihbnfmpdbaa
open Go.RowKit Go.BigFrame
namespace Sn
/-- What Delete hands back. -/
def DlTo (nb nn : Nat) (T : Tr) (n : Int) (w : World) (e : Ending) (w' : World) : Prop :=
  ∃ Ab cb An cn R, e = .returned (.tuple #[.agg #[.slice Ab nb cb, .slice An nn cn], .int .i64 (deleteE T n)]) ∧ TrM w w' Ab nb cb An nn cn (delete T n) R
theorem DlTo.no {nb nn : Nat} {T : Tr} {n k : Int} {w w' : World} {Ab : Option Addr} {cb : Nat} {An : Option Addr} {cn : Nat} {R : List Nr} (h : deleteE T n = k) (hk : k ≠ 0) (hM : TrM w w' Ab nb cb An nn cn T R) :
    DlTo nb nn T n w (.returned (.tuple #[.agg #[.slice Ab nb cb, .slice An nn cn], .int .i64 k])) w' := by
  refine ⟨Ab, cb, An, cn, R, by rw [h], ?_⟩
  unfold delete; rw [h, if_neg hk]; exact hM
theorem DlTo.yes {nb nn : Nat} {T : Tr} {n : Int} {w w' : World} {Ab : Option Addr} {cb : Nat} {An : Option Addr} {cn : Nat} {R : List Nr} {N : List Nd} (h : deleteE T n = 0) (hN : delete T n = ⟨T.base, N⟩) (hM : Mem w w' (tRows w Ab nb cb An nn cn T.base R N)) (hE : NrsE R N) :
    DlTo nb nn T n w (.returned (.tuple #[.agg #[.slice Ab nb cb, .slice An nn cn], .int .i64 0])) w' := by
  refine ⟨Ab, cb, An, cn, R, by rw [h], ?_⟩
  rw [hN]; exact ⟨hM, hE⟩
theorem mem_field1 {W w : World} {k a b c : Ck} {Ab : Option Addr} {nb cb : Nat} {g nn cn : Nat} {B : List ByteArray} {R : List Nr} {N : List Nd} {p : Nat} {y : Nr} {x : Nd} (h : Mem W w (k :: a :: b :: c :: tRows W Ab nb cb (some ⟨g, 0, none⟩) nn cn B R N)) (hy : R[p]? = some y) (hx : N[p]? = some x) {j : Nat} (hj : j < 4) (u : Value) (y' : Nr) (f : Nd → Nd) (hu : nrC y' = (nrC y).set j u) (h1 : y'.A = y.A ∧ y'.n = y.n ∧ y'.cap = y.cap) (h2 : (f x).ds = x.ds) :
    Mem W (w.setCell ⟨g, p * 4 + j, none⟩ u) (k :: a :: b :: c :: tRows W Ab nb cb (some ⟨g, 0, none⟩) nn cn B (R.set p y') (upd N p f)) := by
  have := h.putAt 5 rfl nrC_len hy hj u y' hu
  unfold tRows
  rw [dRows_set hy hx h1 h2]; exact this
set_option maxHeartbeats 8000000 in
theorem delete_any (Ab : Option Addr) (nb cb : Nat) (An : Option Addr) (nn cn : Nat) (T : Tr) (n : Int) (w : World) (h : TrR w Ab nb An nn T) (hv : Ok T) :
    Calls Try.prog 19 #[.agg #[.slice Ab nb cb, .slice An nn cn], .int .i64 n] w (DlTo nb nn T n w) := by
  have HCL := Lib.hid (fun w' (q : Held w w') => clone_any Ab nb cb An nn cn T w' (h.held q) hv)
  have HVA := Lib.hid (fun w' (q : Held w w') => valid_any Ab nb cb An nn cn T w' (h.held q) hv)
  have HEX := Lib.hid (fun w' (q : Held w w') => exists_any Ab nb cb An nn cn T n w' (h.held q))
  have hn12 := hv.nods
  rw [h.nn] at hn12
  have hn12' : (nn : Int) ≤ 1000000 := by omega
  have HCH := Lib.hid (fun w' (q : Held w w') => children_any Ab nb cb An nn cn T n w' (h.held q) hn12')
  have M0 := Lib.hid (((Mem.start w).alloc #[.slice Ab nb cb, .slice An nn cn] 27).alloc' (b := w.heap.size + 1) (by simp) #[.slice none 0 0, .slice none 0 0] 27)
  have hnn := h.nn
  have hbl := h.bs.1
  have HNN := Lib.hid hnn
  obtain ⟨hb, hhb⟩ : ∃ q, ex T.nodes n = q := ⟨_, rfl⟩
  cases hb
  · have HP := Lib.hid (deleteE_no hhb)
    rw [hhb] at HEX
    clear h hv hhb hnn hbl
    go_enter Try.func19, Try.ntmps19
    go_wp2_with fail
    refine (HCL.out _ M0.out.held).mono ?_
    rintro e w1 ⟨Ab', cb', An', cn', R, rfl, hT1⟩
    have HE := Lib.hid hT1.eq
    have M1 : Hid (Mem w (w1.alloc (.cells #[.slice Ab' nb cb', .slice An' nn cn'] 27)) (.box w1.heap.size #[.slice Ab' nb cb', .slice An' nn cn'] 27 :: .box w.heap.size #[.slice Ab nb cb, .slice An nn cn] 27 :: .box (w.heap.size + 1) #[.slice none 0 0, .slice none 0 0] 27 :: tRows w Ab' nb cb' An' nn cn' T.base R T.nodes)) := (TrM.join M0.out hT1).allocF rfl #[.slice Ab' nb cb', .slice An' nn cn'] 27
    obtain ⟨⟨z0, z1⟩, _, zlt⟩ := M1.out.box2 1 rfl
    have HRL : Hid (R.length = nn) := show _ = _ by rw [hT1.eq.1, HNN.out]
    clear hT1
    go_wp2_with (first | (go_at_call 14; refine (HVA.out _ M1.out.held).mono ?_; rintro e w2 ⟨rfl, h2⟩; have M2 := Lib.hid (M1.out.keep h2); obtain ⟨⟨a0, a1⟩, ⟨af0, af1⟩, alt⟩ := M2.out.box2 1 rfl) | (go_at_call 39; refine (HEX.out _ M2.out.held).mono ?_; rintro e w3 ⟨rfl, h3⟩; have M3 := Lib.hid (M2.out.keep h3); obtain ⟨⟨b0, b1⟩, ⟨bf0, bf1⟩, blt⟩ := M3.out.box2 1 rfl; obtain ⟨⟨c0, c1⟩, ⟨cf0, cf1⟩, clt⟩ := M3.out.box2 0 rfl; obtain ⟨⟨d0, d1⟩, ⟨df0, df1⟩, dlt⟩ := M3.out.box2 2 rfl))
    have M9 := Lib.hid ((M3.out.put 2 rfl 0 (.slice Ab' nb cb')).put 2 rfl 1 (.slice An' nn cn'))
    refine bodyPost_ret (Bx.res_ct Try.results19 rfl (TB.load (M9.out.blk 2 rfl) rfl rfl)) rfl ?_
    exact DlTo.no HP.out (by decide) ⟨M9.out.rest.rest.rest, HE.out⟩
  · have HDE := Lib.hid (deleteE_yes hhb)
    obtain ⟨p, x, rfl, hx, hlx⟩ := ex_iff.1 hhb
    have hpn : (p : Int) < (nn : Int) := by have := (List.getElem?_eq_some_iff.1 hx).1; omega
    have HX := Lib.hid hx
    have hpar := ok_par_lt hv hx
    rw [hhb] at HEX
    obtain ⟨K, hK⟩ : ∃ q, kids T.nodes p = q := ⟨_, rfl⟩
    have HK := Lib.hid hK
    obtain ⟨kn, hkn⟩ : ∃ q, K.length = q := ⟨_, rfl⟩
    have HKN := Lib.hid hkn
    by_cases hk1 : (1 : Int) < (kn : Int)
    · have HP : Hid (deleteE T p = 4104) := show _ = _ by rw [HDE.out, HK.out, HKN.out, if_pos (by omega)]
      clear h hv hhb hnn hbl hK hkn hx
      go_enter Try.func19, Try.ntmps19
      go_wp2_with fail
      refine (HCL.out _ M0.out.held).mono ?_
      rintro e w1 ⟨Ab', cb', An', cn', R, rfl, hT1⟩
      have HE := Lib.hid hT1.eq
      have M1 : Hid (Mem w (w1.alloc (.cells #[.slice Ab' nb cb', .slice An' nn cn'] 27)) (.box w1.heap.size #[.slice Ab' nb cb', .slice An' nn cn'] 27 :: .box w.heap.size #[.slice Ab nb cb, .slice An nn cn] 27 :: .box (w.heap.size + 1) #[.slice none 0 0, .slice none 0 0] 27 :: tRows w Ab' nb cb' An' nn cn' T.base R T.nodes)) := (TrM.join M0.out hT1).allocF rfl #[.slice Ab' nb cb', .slice An' nn cn'] 27
      obtain ⟨⟨z0, z1⟩, _, zlt⟩ := M1.out.box2 1 rfl
      have HRL : Hid (R.length = nn) := show _ = _ by rw [hT1.eq.1, HNN.out]
      clear hT1
      go_wp2_with (first | (go_at_call 14; refine (HVA.out _ M1.out.held).mono ?_; rintro e w2 ⟨rfl, h2⟩; have M2 := Lib.hid (M1.out.keep h2); obtain ⟨⟨a0, a1⟩, ⟨af0, af1⟩, alt⟩ := M2.out.box2 1 rfl) | (go_at_call 39; refine (HEX.out _ M2.out.held).mono ?_; rintro e w3 ⟨rfl, h3⟩; have M3 := Lib.hid (M2.out.keep h3); obtain ⟨⟨b0, b1⟩, ⟨bf0, bf1⟩, blt⟩ := M3.out.box2 1 rfl) | (go_at_call 42; refine (HCH.out _ M3.out.held).mono ?_; rintro e w4 ⟨A4, cap4, rfl, hc4, ho4, h4⟩; rw [HK.out, HKN.out] at hc4 ⊢; have M4 := Lib.hid (M3.out.keep h4); obtain ⟨⟨c0, c1⟩, ⟨cf0, cf1⟩, clt⟩ := M4.out.box2 0 rfl; obtain ⟨⟨d0, d1⟩, ⟨df0, df1⟩, dlt⟩ := M4.out.box2 2 rfl; clear ho4))
      have M9 := Lib.hid ((M4.out.put 2 rfl 0 (.slice Ab' nb cb')).put 2 rfl 1 (.slice An' nn cn'))
      refine bodyPost_ret (Bx.res_ct Try.results19 rfl (TB.load (M9.out.blk 2 rfl) rfl rfl)) rfl ?_
      exact DlTo.no HP.out (by decide) ⟨M9.out.rest.rest.rest, HE.out⟩
    have HP : Hid (deleteE T p = 0) := show _ = _ by rw [HDE.out, HK.out, HKN.out, if_neg (by omega)]
    have HD := Lib.hid (delete_at hx HP.out)
    by_cases hk0 : kn = 0
    · obtain rfl : K = [] := List.eq_nil_of_length_eq_zero (by omega)
      have HKO := Lib.hid (delKo_none (x := x) HK.out)
      subst hk0
      clear h hv hhb hnn hbl hK hkn hx
      go_enter Try.func19, Try.ntmps19
      go_wp2_with fail
      refine (HCL.out _ M0.out.held).mono ?_
      rintro e w1 ⟨Ab', cb', An', cn', R, rfl, hT1⟩
      have HE := Lib.hid hT1.eq
      have M1 : Hid (Mem w (w1.alloc (.cells #[.slice Ab' nb cb', .slice An' nn cn'] 27)) (.box w1.heap.size #[.slice Ab' nb cb', .slice An' nn cn'] 27 :: .box w.heap.size #[.slice Ab nb cb, .slice An nn cn] 27 :: .box (w.heap.size + 1) #[.slice none 0 0, .slice none 0 0] 27 :: tRows w Ab' nb cb' An' nn cn' T.base R T.nodes)) := (TrM.join M0.out hT1).allocF rfl #[.slice Ab' nb cb', .slice An' nn cn'] 27
      obtain ⟨⟨z0, z1⟩, _, zlt⟩ := M1.out.box2 1 rfl
      have HRL : Hid (R.length = nn) := show _ = _ by rw [hT1.eq.1, HNN.out]
      clear hT1
      go_upto_region 20 with (first | (go_at_call 14; refine (HVA.out _ M1.out.held).mono ?_; rintro e w2 ⟨rfl, h2⟩; have M2 := Lib.hid (M1.out.keep h2); obtain ⟨⟨a0, a1⟩, ⟨af0, af1⟩, alt⟩ := M2.out.box2 1 rfl) | (go_at_call 39; refine (HEX.out _ M2.out.held).mono ?_; rintro e w3 ⟨rfl, h3⟩; have M3 := Lib.hid (M2.out.keep h3); obtain ⟨⟨b0, b1⟩, ⟨bf0, bf1⟩, blt⟩ := M3.out.box2 1 rfl) | (go_at_call 42; refine (HCH.out _ M3.out.held).mono ?_; rintro e w4 ⟨A4, cap4, rfl, hc4, ho4, h4⟩; rw [HK.out] at hc4 ⊢; rw [List.length_nil] at hc4 ⊢; have M4 := Lib.hid (M3.out.keep h4); obtain ⟨⟨c0, c1⟩, ⟨cf0, cf1⟩, clt⟩ := M4.out.box2 0 rfl; obtain ⟨⟨d0, d1⟩, ⟨df0, df1⟩, dlt⟩ := M4.out.box2 2 rfl; clear ho4; obtain ⟨g, y, rfl, hge, hlt, hy, hcell⟩ := M4.out.slot 4 rfl nrC_len (by decide) (k := p) (by rw [HRL.out]; omega); have hq := HE.out.2 p y x hy HX.out; have s0 : w4.cell? ⟨g, p * 4, none⟩ = some (.string y.nm) := (M4.out.cellAt 4 rfl nrC_len (by decide) hy (j := 0) (by decide)).2 _ rfl; have s0f : w4.frozen? ⟨g, p * 4, none⟩ = false := (M4.out.cellAt 4 rfl nrC_len (by decide) hy (j := 0) (by decide)).1; have s1 : w4.cell? ⟨g, p * 4 + 1, none⟩ = some (.int .i64 y.par) := (M4.out.cellAt 4 rfl nrC_len (by decide) hy (j := 1) (by decide)).2 _ rfl; have s1f : w4.frozen? ⟨g, p * 4 + 1, none⟩ = false := (M4.out.cellAt 4 rfl nrC_len (by decide) hy (j := 1) (by decide)).1; have s2 : w4.cell? ⟨g, p * 4 + 2, none⟩ = some (.bool y.op) := (M4.out.cellAt 4 rfl nrC_len (by decide) hy (j := 2) (by decide)).2 _ rfl; have s2f : w4.frozen? ⟨g, p * 4 + 2, none⟩ = false := (M4.out.cellAt 4 rfl nrC_len (by decide) hy (j := 2) (by decide)).1; have s3 : w4.cell? ⟨g, p * 4 + 3, none⟩ = some (.slice y.A y.n y.cap) := (M4.out.cellAt 4 rfl nrC_len (by decide) hy (j := 3) (by decide)).2 _ rfl; have s3f : w4.frozen? ⟨g, p * 4 + 3, none⟩ = false := (M4.out.cellAt 4 rfl nrC_len (by decide) hy (j := 3) (by decide)).1; rw [hq.par] at s1; clear hcell))
      have M5 := Lib.hid (mem_gone M4.out hy HX.out)
      have HE5 := Lib.hid (HE.out.gone HX.out)
      obtain ⟨w5, hw5⟩ : ∃ q, q = ((((w4.setCell ⟨g, p * 4, none⟩ (.string ⟨#[]⟩)).setCell ⟨g, p * 4 + 1, none⟩ (.int .i64 (-1))).setCell ⟨g, p * 4 + 2, none⟩ (.bool false)).setCell ⟨g, p * 4 + 3, none⟩ (.slice none 0 0)) := ⟨_, rfl⟩
      rw [← hw5] at M5 ⊢
      clear hw5
      clear s0 s1 s2 s3 s0f s1f s2f s3f c0 c1 cf0 cf1 clt d0 d1 df0 df1 dlt
      have hpu : ¬ x.par = (p : Int) := by omega
      obtain ⟨⟨t0, t1⟩, ⟨tf0, tf1⟩, tlt⟩ := M5.out.box2 0 rfl
      by_cases hup : x.par < 0
      · have hup2 : ¬ 0 ≤ x.par := by omega
        have M20 := Lib.hid ((M5.out.put 2 rfl 0 (.slice Ab' nb cb')).put 2 rfl 1 (.slice (some ⟨g, 0, none⟩) nn cn'))
        obtain ⟨⟨r0, r1⟩, ⟨rf0, rf1⟩, rlt⟩ := M5.out.box2 0 rfl
        obtain ⟨⟨q0, q1⟩, ⟨qf0, qf1⟩, qlt⟩ := M5.out.box2 2 rfl
        go_wp2
        refine bodyPost_ret (Bx.res_ct Try.results19 rfl (TB.load (M20.out.blk 2 rfl) rfl rfl)) rfl ?_
        exact DlTo.yes (R := (R.set p ⟨⟨#[]⟩, -1, false, none, 0, 0⟩)) (N := (gone T.nodes p)) HP.out (by rw [HD.out, HKO.out, del_shut (.inl hup)]) M20.out.rest.rest.rest (HE5.out)
      · obtain ⟨u, hu⟩ := Int.eq_ofNat_of_zero_le (by omega : 0 ≤ x.par)
        rw [hu] at hpar ⊢
        have HU := Lib.hid hu
        have hun : (u : Int) < (nn : Int) := by omega
        have HCH2 := Lib.hid (children_any Ab' nb cb' (some ⟨g, 0, none⟩) nn cn' ⟨T.base, (gone T.nodes p)⟩ u w5 (TrM.tr ⟨M5.out.rest.rest.rest, HE5.out⟩) hn12')
        obtain ⟨K2, hK2⟩ : ∃ q, kids ((gone T.nodes p)) u = q := ⟨_, rfl⟩
        have HK2 := Lib.hid hK2
        obtain ⟨ln, hln⟩ : ∃ q, K2.length = q := ⟨_, rfl⟩
        have HLN := Lib.hid hln
        clear hK2 hu hln hup
        by_cases hl0 : ln = 0
        · subst hl0
          have HEM : Hid ((kids ((gone T.nodes p)) u).isEmpty = true) := show _ = _ by rw [HK2.out, List.eq_nil_of_length_eq_zero HLN.out]; rfl
          have hul : u < ((R.set p ⟨⟨#[]⟩, -1, false, none, 0, 0⟩)).length := by have := HE5.out.1; have h9 : ((gone T.nodes p)).length = nn := by { unfold gone; rw [upd_len, HNN.out] }; omega
          have huy := List.getElem?_eq_getElem hul
          obtain ⟨uy, huy'⟩ : ∃ q, ((R.set p ⟨⟨#[]⟩, -1, false, none, 0, 0⟩))[u]? = some q := ⟨_, huy⟩
          obtain ⟨ux, hux⟩ : ∃ q, ((gone T.nodes p))[u]? = some q := ⟨_, List.getElem?_eq_getElem (by rw [← HE5.out.1]; exact hul)⟩
          have hq9 := HE5.out.2 u uy ux huy' hux
          have HUX := Lib.hid hux
          have HUQ := Lib.hid hq9
          clear huy hq9 hux
          go_upto_region 22 with (go_at_call 42; refine HCH2.out.mono ?_; rintro e w30 ⟨A30, cap30, rfl, hc30, ho30, h30⟩; rw [HK2.out, HLN.out] at hc30 ⊢; clear ho30; have M30 := Lib.hid (M5.out.keep h30); obtain ⟨⟨r0, r1⟩, ⟨rf0, rf1⟩, rlt⟩ := M30.out.box2 0 rfl; obtain ⟨⟨q0, q1⟩, ⟨qf0, qf1⟩, qlt⟩ := M30.out.box2 2 rfl; have k2 := (M30.out.cellAt 4 rfl nrC_len (by decide) huy' (j := 2) (by decide)).2 _ rfl; have k2f := (M30.out.cellAt 4 rfl nrC_len (by decide) huy' (j := 2) (by decide)).1)
          have M31 := Lib.hid (mem_field M30.out huy' HUX.out (j := 2) (by decide) (.bool true) { uy with op := true } (fun x => { x with op := true }) rfl ⟨rfl, rfl, rfl⟩ rfl)
          obtain ⟨w31, hw31⟩ : ∃ q, q = w30.setCell ⟨g, u * 4 + 2, none⟩ (.bool true) := ⟨_, rfl⟩
          rw [← hw31] at M31 ⊢
          clear hw31
          clear r0 r1 rf0 rf1 rlt q0 q1 qf0 qf1 qlt
          have M20 := Lib.hid ((M31.out.put 2 rfl 0 (.slice Ab' nb cb')).put 2 rfl 1 (.slice (some ⟨g, 0, none⟩) nn cn'))
          obtain ⟨⟨r0, r1⟩, ⟨rf0, rf1⟩, rlt⟩ := M31.out.box2 0 rfl
          obtain ⟨⟨q0, q1⟩, ⟨qf0, qf1⟩, qlt⟩ := M31.out.box2 2 rfl
          go_wp2
          refine bodyPost_ret (Bx.res_ct Try.results19 rfl (TB.load (M20.out.blk 2 rfl) rfl rfl)) rfl ?_
          exact DlTo.yes (R := ((R.set p ⟨⟨#[]⟩, -1, false, none, 0, 0⟩)).set u { uy with op := true }) (N := upd ((gone T.nodes p)) u (fun x => { x with op := true })) HP.out (by rw [HD.out, HKO.out, HU.out, del_open (by omega) (by rw [← gone_alone]; exact HEM.out)]) M20.out.rest.rest.rest (HE5.out.set HUX.out ⟨HUQ.out.nm, HUQ.out.par, rfl, HUQ.out.n⟩)
        · have hl1 : ((ln : Int) == 0) = false := by simp; omega
          have hl2 : (kids ((gone T.nodes p)) u).isEmpty = false := by rw [HK2.out]; cases K2 with | nil => exact absurd HLN.out.symm hl0 | cons a l => rfl
          have HEM := Lib.hid hl2
          clear hl2
          go_wp2_with (go_at_call 42; refine HCH2.out.mono ?_; rintro e w30 ⟨A30, cap30, rfl, hc30, ho30, h30⟩; rw [HK2.out, HLN.out] at hc30 ⊢; clear ho30; have M30 := Lib.hid (M5.out.keep h30); obtain ⟨⟨r0, r1⟩, ⟨rf0, rf1⟩, rlt⟩ := M30.out.box2 0 rfl; obtain ⟨⟨q0, q1⟩, ⟨qf0, qf1⟩, qlt⟩ := M30.out.box2 2 rfl)
          have M32 := Lib.hid M30.out
          have M20 := Lib.hid ((M32.out.put 2 rfl 0 (.slice Ab' nb cb')).put 2 rfl 1 (.slice (some ⟨g, 0, none⟩) nn cn'))
          go_wp2
          refine bodyPost_ret (Bx.res_ct Try.results19 rfl (TB.load (M20.out.blk 2 rfl) rfl rfl)) rfl ?_
          exact DlTo.yes (R := (R.set p ⟨⟨#[]⟩, -1, false, none, 0, 0⟩)) (N := (gone T.nodes p)) HP.out (by rw [HD.out, HKO.out, HU.out, del_shut (.inr (by rw [← gone_alone]; exact HEM.out))]) M20.out.rest.rest.rest (HE5.out)
    obtain ⟨kk, rfl⟩ : ∃ q, K = [q] := by
      cases K with
      | nil => exact absurd hkn.symm (fun q => hk0 q.symm.symm)
      | cons a l => cases l with
        | nil => exact ⟨a, rfl⟩
        | cons b l => simp at hkn; omega
    obtain ⟨jn, cx, rfl, hcx, hck⟩ := kids_mem.1 (show kk ∈ kids T.nodes p by rw [hK]; simp)
    have hcl : live cx = true ∧ cx.par = p := by unfold isKid at hck; simpa using hck
    have hcp := ok_par_lt hv hcx
    have hjp : ¬ jn = p := by omega
    have hjn : (jn : Int) < (nn : Int) := by have := (List.getElem?_eq_some_iff.1 hcx).1; omega
    have HCX := Lib.hid hcx
    have HKO := Lib.hid (delKo_some (x := x) HK.out hcx)
    have hxd := (hv.node p x hx).ds
    have hcd := (hv.node jn cx hcx).ds
    have hdl := ok_dl hv p x hx
    have hdl2 := ok_dl hv jn cx hcx
    have HSE := Lib.hid (fun (bk : Nat) (hbk : bk < nb) w' (q : Held w w') => see_any Ab nb cb An nn cn T x.par bk w' (h.held q) hv (by omega) (by omega) hbk (fun i x hx => Int.le_trans (ok_dl hv i x hx) (by decide)))
    have HKA := Lib.hid (keptTo_all T cx.ds x.ds x.par)
    have hmr : ∀ d ∈ merge cx.ds x.ds, 0 ≤ d.b ∧ d.b < nb := fun d hd => by
      rw [← hbl]
      rcases merge_mem _ _ d hd with hd | hd
      · have := hcd.all d hd; exact ⟨this.1, this.2.1⟩
      · have := hxd.all d hd; exact ⟨this.1, this.2.1⟩
    obtain ⟨Mg, hMg⟩ : ∃ q, merge cx.ds x.ds = q := ⟨_, rfl⟩
    have HMG := Lib.hid hMg
    have HMR := Lib.hid hmr
    have hml : (Mg.length : Int) ≤ 128 := by
      have := hmr
      rw [← hMg]
      have key : ∀ c p : List Dl, (merge c p).length ≤ c.length + p.length := by
        intro c p
        induction c, p using merge.induct with
        | case1 p => rw [merge]; simp
        | case2 c hc => rw [merge_nil]; simp
        | case3 c cs p ps h ih => rw [merge, if_pos h]; simp at ih ⊢; omega
        | case4 c cs p ps h h2 ih => rw [merge, if_neg h, if_pos h2]; simp at ih ⊢; omega
        | case5 c cs p ps h h2 ih => rw [merge, if_neg h, if_neg h2]; simp at ih ⊢; omega
      have := key cx.ds x.ds
      omega
    obtain ⟨ln, hln⟩ : ∃ q, Mg.length = q := ⟨_, rfl⟩
    have HLN := Lib.hid hln
    rw [hMg] at HMR HKA
    rw [hln] at hml HKA
    have hcl2 := hcl.1
    clear h hv hhb hnn hbl hK hkn hx hcx hck hcl hMg hmr hln hxd hcd
    go_enter Try.func19, Try.ntmps19
    go_wp2_with fail
    refine (HCL.out _ M0.out.held).mono ?_
    rintro e w1 ⟨Ab', cb', An', cn', R, rfl, hT1⟩
    have HE := Lib.hid hT1.eq
    have M1 : Hid (Mem w (w1.alloc (.cells #[.slice Ab' nb cb', .slice An' nn cn'] 27)) (.box w1.heap.size #[.slice Ab' nb cb', .slice An' nn cn'] 27 :: .box w.heap.size #[.slice Ab nb cb, .slice An nn cn] 27 :: .box (w.heap.size + 1) #[.slice none 0 0, .slice none 0 0] 27 :: tRows w Ab' nb cb' An' nn cn' T.base R T.nodes)) := (TrM.join M0.out hT1).allocF rfl #[.slice Ab' nb cb', .slice An' nn cn'] 27
    obtain ⟨⟨z0, z1⟩, _, zlt⟩ := M1.out.box2 1 rfl
    have HRL : Hid (R.length = nn) := show _ = _ by rw [hT1.eq.1, HNN.out]
    clear hT1
    go_upto_region 9 with (first | (go_at_call 14; refine (HVA.out _ M1.out.held).mono ?_; rintro e w2 ⟨rfl, h2⟩; have M2 := Lib.hid (M1.out.keep h2); obtain ⟨⟨a0, a1⟩, ⟨af0, af1⟩, alt⟩ := M2.out.box2 1 rfl) | (go_at_call 39; refine (HEX.out _ M2.out.held).mono ?_; rintro e w3 ⟨rfl, h3⟩; have M3 := Lib.hid (M2.out.keep h3); obtain ⟨⟨b0, b1⟩, ⟨bf0, bf1⟩, blt⟩ := M3.out.box2 1 rfl) | (go_at_call 42; refine (HCH.out _ M3.out.held).mono ?_; rintro e w4 ⟨A4, cap4, rfl, hc4, ho4, h4⟩; rw [HK.out] at hc4 ho4 ⊢; rw [show ([(jn : Int)] : List Int).length = 1 from rfl] at hc4 ho4 ⊢; have M4 := Lib.hid (M3.out.keep h4); obtain ⟨⟨c0, c1⟩, ⟨cf0, cf1⟩, clt⟩ := M4.out.box2 0 rfl; obtain ⟨⟨d0, d1⟩, ⟨df0, df1⟩, dlt⟩ := M4.out.box2 2 rfl; obtain ⟨b4, rfl, _, lb4, hsl4⟩ := Own.slot inC_len ho4 (by decide) (k := 0) (by simp); have s4 := (hsl4 0 (by decide)).2 (.int .i64 (jn : Int)) rfl; simp only [Nat.zero_mul, Nat.add_zero] at s4; obtain ⟨g, y, rfl, hge, hlt, hy, hcell⟩ := M4.out.slot 4 rfl nrC_len (by decide) (k := p) (by rw [HRL.out]; omega); have hq := HE.out.2 p y x hy HX.out; obtain ⟨cy, hcy, hcq⟩ := HE.out.at HCX.out; have s1 : w4.cell? ⟨g, p * 4 + 1, none⟩ = some (.int .i64 y.par) := (M4.out.cellAt 4 rfl nrC_len (by decide) hy (j := 1) (by decide)).2 _ rfl; rw [hq.par] at s1; clear hcell hsl4))
    clear ho4
    go_big_quiet (fail)
    obtain ⟨w5, hw5⟩ : ∃ q, q = w4.drewN nq := ⟨_, rfl⟩
    have M5 := Lib.hid (M4.out.keep ((Held.refl w4).drewN nq))
    rw [← hw5] at M5 ⊢
    clear hw5 s1 s4 c0 c1 cf0 cf1 clt d0 d1 df0 df1 dlt
    go_upto_region 11 with fail
    obtain ⟨⟨c0, c1⟩, ⟨cf0, cf1⟩, clt⟩ := M5.out.box2 0 rfl
    have t3 : w5.cell? ⟨g, jn * 4 + 3, none⟩ = some (.slice cy.A cy.n cy.cap) := (M5.out.cellAt 4 rfl nrC_len (by decide) hcy (j := 3) (by decide)).2 _ rfl
    have p3 : w5.cell? ⟨g, p * 4 + 3, none⟩ = some (.slice y.A y.n y.cap) := (M5.out.cellAt 4 rfl nrC_len (by decide) hy (j := 3) (by decide)).2 _ rfl
    have HCY := Lib.hid hcq
    have HYQ := Lib.hid hq
    have HMC := Lib.hid (fun w' (q : Held w5 w') => merge_any cy.A cy.n cy.cap y.A y.n y.cap cx.ds x.ds w' (Own.reads dlC_len ((M5.out.keep q).row (jn + 5) (v := .slice cy.A cy.n cy.cap) (L := cx.ds) (f := dlC) (e := 38) (s := 2) (base := w.heap.size) (dRows_at hcy HCX.out))).1 (Own.reads dlC_len ((M5.out.keep q).row (p + 5) (v := .slice y.A y.n y.cap) (L := x.ds) (f := dlC) (e := 38) (s := 2) (base := w.heap.size) (dRows_at hy HX.out))).1 (by rw [HCY.out.n]; omega) (by rw [HYQ.out.n]; omega))
    rw [HMG.out] at HMC
    clear hcq hq
    go_region_held3 (fun w' => w'.cell? ⟨w1.heap.size, 1, none⟩ = some (.slice (some ⟨g, 0, none⟩) nn cn') ∧ w'.cell? ⟨g, jn * 4 + 3, none⟩ = some (.slice cy.A cy.n cy.cap) ∧ w'.cell? ⟨g, p * 4 + 3, none⟩ = some (.slice y.A y.n y.cap) ∧ Held w5 w')
      ((repeat' refine And.intro ?_ ?_) <;> first | exact c1 | exact t3 | exact p3 | exact (Held.refl _).drew | exact Held.cell (by assumption) c1 | exact Held.cell (by assumption) t3 | exact Held.cell (by assumption) p3 | exact (by assumption))
      (first | (go_at_call 43; refine (HMC.out _ (Held.refl _).drew).mono ?_; rintro e w6 ⟨A6, cap6, rfl, hc6, ho6, h6⟩; have k6 : Held w5 w6 := (Held.refl _).drew.step h6; have M6 := Lib.hid ((M5.out.keep (Held.refl _).drew).ownF h6 ho6); rw [HLN.out] at hc6 M6 ⊢; clear ho6) | fail)
    have M7 := Lib.hid (M6.out.nilRow (e := 38) (s := 2) (f := dlC)).toFront
    clear c0 c1 cf0 cf1 clt t3 p3 M6 h6 k6
    go_wp2_with fail
    go_loopw [10, 59] (fun v i wr => ∃ (k n : Nat) (A : Option Addr) (cp : Nat), i = .int .i64 k ∧ k ≤ ln ∧ v = .slice A n cp ∧ (keptTo T Mg x.par k).length = n ∧ n ≤ k ∧ Mem w wr (.row 38 2 dlC w.heap.size (.slice A n cp) (keptTo T Mg x.par k) :: .row 38 2 dlC w.heap.size (.slice A6 ln cap6) Mg :: .box w1.heap.size #[.slice Ab' nb cb', .slice (some ⟨g, 0, none⟩) nn cn'] 27 :: .box w.heap.size #[.slice Ab nb cb, .slice An nn cn] 27 :: .box (w.heap.size + 1) #[.slice none 0 0, .slice none 0 0] 27 :: tRows w Ab' nb cb' (some ⟨g, 0, none⟩) nn cn' T.base R T.nodes)) (fun _ i _ => ln - (intOf i).toNat)
    case atStart => exact ⟨0, 0, none, 0, rfl, Nat.zero_le _, rfl, rfl, Nat.le_refl _, M7.out⟩
    case round =>
      obtain ⟨k, n, A, cp, rfl, hk, rfl, hn, hnk, hM⟩ := hrel
      have M8 := Lib.hid hM
      have HN := Lib.hid hn
      clear hM hn M7
      by_cases hlt2 : (k : Int) < ln
      · obtain ⟨g6, dd, rfl, hge6, hlt6, hd, hcell6⟩ := M8.out.slot 1 rfl dlC_len (by decide) (k := k) (by rw [HLN.out]; omega)
        have hdr := HMR.out dd (List.mem_of_getElem? hd)
        have HNX := Lib.hid (keptTo_next (T := T) (up := x.par) hd)
        have d0 := (hcell6 0 (by decide)).2 (.int .i64 dd.b) rfl
        have d1 := (hcell6 1 (by decide)).2 (.string dd.s) rfl
        simp only [Nat.add_zero] at d0
        obtain ⟨db, ds⟩ := dd
        simp only at hdr HNX d0 d1
        obtain ⟨bk, rfl⟩ := Int.eq_ofNat_of_zero_le hdr.1
        have HSB := Lib.hid (HSE.out bk (by omega))
        obtain ⟨sv, hsv⟩ : ∃ q, sees T x.par bk = q := ⟨_, rfl⟩
        rw [hsv] at HSB HNX
        have M9 := Lib.hid (M8.out.allocF rfl #[.int .i64 (bk : Int), .string ds] 38)
        obtain ⟨is, his⟩ : ∃ q, decide (¬ ds = sv) = q := ⟨_, rfl⟩
        rw [his] at HNX
        clear hsv hcell6 hd
        cases is
        · have hnb := neq_f his
          have HS : Hid (keptTo T Mg x.par (k + 1) = keptTo T Mg x.par k) := show _ = _ by rw [HNX.out]; simp
          clear his
          go_wp2_with fail
          obtain ⟨wB, hwB⟩ : ∃ q, q = wr.alloc (.cells #[.int .i64 (bk : Int), .string ds] 38) := ⟨_, rfl⟩
          rw [← hwB] at M9 ⊢
          clear hwB d0 d1
          obtain ⟨⟨e0, e1⟩, ⟨ef0, ef1⟩, elt⟩ := M9.out.box2 0 rfl
          obtain ⟨⟨t0, t1⟩, ⟨tf0, tf1⟩, tlt⟩ := M9.out.box2 4 rfl
          go_region_held3 (fun w' => w'.cell? ⟨w.heap.size, 0, none⟩ = some (.slice Ab nb cb) ∧ w'.cell? ⟨w.heap.size, 1, none⟩ = some (.slice An nn cn) ∧ w'.cell? ⟨wr.heap.size, 0, none⟩ = some (.int .i64 (bk : Int)) ∧ w'.cell? ⟨wr.heap.size, 1, none⟩ = some (.string ds) ∧ Held wB w')
            ((repeat' refine And.intro ?_ ?_) <;> first | exact t0 | exact t1 | exact e0 | exact e1 | exact (Held.refl _).drew | exact Held.cell (by assumption) t0 | exact Held.cell (by assumption) t1 | exact Held.cell (by assumption) e0 | exact Held.cell (by assumption) e1 | exact (by assumption))
            (first | (go_at_call 26; refine (HSB.out _ (M9.out.held.step (Held.refl _).drew)).mono ?_; rintro e w10 ⟨rfl, h10⟩; have k10 : Held wB w10 := (Held.refl _).drew.step h10) | fail)
          have M10 := Lib.hid (M9.out.keep k10)
          clear h10 e0 e1 ef0 ef1 elt t0 t1 tf0 tf1 tlt
          go_wp2
          go_roundw
          case rel => exact ⟨k + 1, n, A, cp, by go_num, by omega, rfl, by rw [HS.out, HN.out], by omega, by rw [HS.out]; exact M10.out.rest⟩
          case measure => (simp [intOf]) <;> omega
        · have hnb := neq_t his
          have HS : Hid (keptTo T Mg x.par (k + 1) = keptTo T Mg x.par k ++ [⟨(bk : Int), ds⟩]) := show _ = _ by rw [HNX.out]; simp
          clear his
          go_wp2_with fail
          obtain ⟨wB, hwB⟩ : ∃ q, q = wr.alloc (.cells #[.int .i64 (bk : Int), .string ds] 38) := ⟨_, rfl⟩
          rw [← hwB] at M9 ⊢
          clear hwB d0 d1
          obtain ⟨⟨e0, e1⟩, ⟨ef0, ef1⟩, elt⟩ := M9.out.box2 0 rfl
          obtain ⟨⟨t0, t1⟩, ⟨tf0, tf1⟩, tlt⟩ := M9.out.box2 4 rfl
          go_region_held3 (fun w' => w'.cell? ⟨w.heap.size, 0, none⟩ = some (.slice Ab nb cb) ∧ w'.cell? ⟨w.heap.size, 1, none⟩ = some (.slice An nn cn) ∧ w'.cell? ⟨wr.heap.size, 0, none⟩ = some (.int .i64 (bk : Int)) ∧ w'.cell? ⟨wr.heap.size, 1, none⟩ = some (.string ds) ∧ Held wB w')
            ((repeat' refine And.intro ?_ ?_) <;> first | exact t0 | exact t1 | exact e0 | exact e1 | exact (Held.refl _).drew | exact Held.cell (by assumption) t0 | exact Held.cell (by assumption) t1 | exact Held.cell (by assumption) e0 | exact Held.cell (by assumption) e1 | exact (by assumption))
            (first | (go_at_call 26; refine (HSB.out _ (M9.out.held.step (Held.refl _).drew)).mono ?_; rintro e w10 ⟨rfl, h10⟩; have k10 : Held wB w10 := (Held.refl _).drew.step h10) | fail)
          have M10 := Lib.hid (M9.out.keep k10)
          clear h10 e0 e1 ef0 ef1 elt t0 t1 tf0 tf1 tlt
          obtain ⟨⟨e0, e1⟩, ⟨ef0, ef1⟩, elt⟩ := M10.out.box2 0 rfl
          go_wp2_with (at_builtin; refine Mem.wp_app (M10.out.skip _) 1 rfl rfl _ _ _ rfl _ 24 Try.underlying34 SlcDl.info rfl (by decide) dlC_len dlC_one ⟨(bk : Int), ds⟩ ⟨w10.heap.size, 0, none⟩ 1 rfl rfl (cells_new _ (by simp) _ _) n HN.out (by omega) (by decide) ?_; intro g11 cp11 w11 M11; have M12 := Lib.hid M11; clear M11)
          go_roundw
          case rel => exact ⟨k + 1, n + 1, _, _, by go_num, by omega, rfl, by rw [HS.out, List.length_append, HN.out]; rfl, by omega, by rw [HS.out]; exact M12.out.rest⟩
          case measure => (simp [intOf]) <;> omega
      · obtain rfl : ln = k := by omega
        rw [HKA.out] at M8 HN
        obtain ⟨KD, hKD⟩ : ∃ q, kept T cx.ds x.ds x.par = q := ⟨_, rfl⟩
        rw [hKD] at M8 HN HKO
        clear hKD
        have M9 := Lib.hid (M8.out.sub (List.Sublist.cons_cons _ (List.sublist_cons_self _ _)))
        have t1 : wr.cell? ⟨g, jn * 4 + 1, none⟩ = some (.int .i64 cy.par) := (M9.out.cellAt 5 rfl nrC_len (by decide) hcy (j := 1) (by decide)).2 _ rfl
        have t1f : wr.frozen? ⟨g, jn * 4 + 1, none⟩ = false := (M9.out.cellAt 5 rfl nrC_len (by decide) hcy (j := 1) (by decide)).1
        go_upto_region 18 with fail
        have M10 := Lib.hid (mem_field1 M9.out hcy HCX.out (j := 1) (by decide) (.int .i64 x.par) ({ cy with par := x.par } : Nr) (fun z => { z with par := x.par }) rfl ⟨rfl, rfl, rfl⟩ rfl)
        obtain ⟨w10, hw10⟩ : ∃ q, q = wr.setCell ⟨g, jn * 4 + 1, none⟩ (.int .i64 x.par) := ⟨_, rfl⟩
        rw [← hw10] at M10 ⊢
        clear hw10
        clear t1 t1f
        have hcy10 : (R.set jn ({ cy with par := x.par } : Nr))[jn]? = some ({ cy with par := x.par } : Nr) := List.getElem?_set_self (List.getElem?_eq_some_iff.1 hcy).1
        have hcx10 : (upd T.nodes jn (fun z => { z with par := x.par }))[jn]? = some { cx with par := x.par } := by rw [upd_at, if_pos rfl, HCX.out]; rfl
        have HCX10 := Lib.hid hcx10
        clear hcx10
        have t3 : w10.cell? ⟨g, jn * 4 + 3, none⟩ = some (.slice cy.A cy.n cy.cap) := (M10.out.cellAt 5 rfl nrC_len (by decide) hcy10 (j := 3) (by decide)).2 _ rfl
        have t3f : w10.frozen? ⟨g, jn * 4 + 3, none⟩ = false := (M10.out.cellAt 5 rfl nrC_len (by decide) hcy10 (j := 3) (by decide)).1
        go_upto_region 19 with fail
        have M11 := Lib.hid (mem_deltas M10.out hcy10 HCX10.out)
        obtain ⟨w11, hw11⟩ : ∃ q, q = w10.setCell ⟨g, jn * 4 + 3, none⟩ (.slice A n cp) := ⟨_, rfl⟩
        rw [← hw11] at M11 ⊢
        clear hw11
        clear t3 t3f
        have hy11 : ((R.set jn ({ cy with par := x.par } : Nr)).set jn { ({ cy with par := x.par } : Nr) with A := A, n := n, cap := cp })[p]? = some y := by rw [List.getElem?_set_ne hjp, List.getElem?_set_ne hjp]; exact hy
        have hx11 : (setDs (upd T.nodes jn (fun z => { z with par := x.par })) jn KD)[p]? = some x := by rw [setDs_at (x := x) (by rw [upd_at, if_neg hjp]; exact HX.out), if_neg hjp]
        have HX11 := Lib.hid hx11
        have HE10 : NrsE (R.set jn ({ cy with par := x.par } : Nr)) (upd T.nodes jn (fun z => { z with par := x.par })) := HE.out.set HCX.out ⟨HCY.out.nm, rfl, HCY.out.op, HCY.out.n⟩
        have HE11 : NrsE ((R.set jn ({ cy with par := x.par } : Nr)).set jn { ({ cy with par := x.par } : Nr) with A := A, n := n, cap := cp }) (setDs (upd T.nodes jn (fun z => { z with par := x.par })) jn KD) := HE10.ds hcy10 HCX10.out A n cp KD HN.out.symm
        have HE12 := Lib.hid (HE11.gone hx11)
        clear hx11 HE10 HE11
        have s0 : w11.cell? ⟨g, p * 4, none⟩ = some (.string y.nm) := (M11.out.cellAt 4 rfl nrC_len (by decide) hy11 (j := 0) (by decide)).2 _ rfl
        have s0f : w11.frozen? ⟨g, p * 4, none⟩ = false := (M11.out.cellAt 4 rfl nrC_len (by decide) hy11 (j := 0) (by decide)).1
        have s1 : w11.cell? ⟨g, p * 4 + 1, none⟩ = some (.int .i64 y.par) := (M11.out.cellAt 4 rfl nrC_len (by decide) hy11 (j := 1) (by decide)).2 _ rfl
        have s1f : w11.frozen? ⟨g, p * 4 + 1, none⟩ = false := (M11.out.cellAt 4 rfl nrC_len (by decide) hy11 (j := 1) (by decide)).1
        have s2 : w11.cell? ⟨g, p * 4 + 2, none⟩ = some (.bool y.op) := (M11.out.cellAt 4 rfl nrC_len (by decide) hy11 (j := 2) (by decide)).2 _ rfl
        have s2f : w11.frozen? ⟨g, p * 4 + 2, none⟩ = false := (M11.out.cellAt 4 rfl nrC_len (by decide) hy11 (j := 2) (by decide)).1
        have s3 : w11.cell? ⟨g, p * 4 + 3, none⟩ = some (.slice y.A y.n y.cap) := (M11.out.cellAt 4 rfl nrC_len (by decide) hy11 (j := 3) (by decide)).2 _ rfl
        have s3f : w11.frozen? ⟨g, p * 4 + 3, none⟩ = false := (M11.out.cellAt 4 rfl nrC_len (by decide) hy11 (j := 3) (by decide)).1
        obtain ⟨⟨c0, c1⟩, ⟨cf0, cf1⟩, clt⟩ := M11.out.box2 0 rfl
        go_upto_region 20 with fail
        have M12 := Lib.hid (mem_gone M11.out hy11 HX11.out)
        obtain ⟨w12, hw12⟩ : ∃ q, q = ((((w11.setCell ⟨g, p * 4, none⟩ (.string ⟨#[]⟩)).setCell ⟨g, p * 4 + 1, none⟩ (.int .i64 (-1))).setCell ⟨g, p * 4 + 2, none⟩ (.bool false)).setCell ⟨g, p * 4 + 3, none⟩ (.slice none 0 0)) := ⟨_, rfl⟩
        rw [← hw12] at M12 ⊢
        clear hw12
        clear s0 s1 s2 s3 s0f s1f s2f s3f c0 c1 cf0 cf1 clt
        obtain ⟨⟨t0, t1⟩, ⟨tf0, tf1⟩, tlt⟩ := M12.out.box2 0 rfl
        by_cases hup : x.par < 0
        · have hup2 : ¬ 0 ≤ x.par := by omega
          have M20 := Lib.hid ((M12.out.put 2 rfl 0 (.slice Ab' nb cb')).put 2 rfl 1 (.slice (some ⟨g, 0, none⟩) nn cn'))
          obtain ⟨⟨r0, r1⟩, ⟨rf0, rf1⟩, rlt⟩ := M12.out.box2 0 rfl
          obtain ⟨⟨q0, q1⟩, ⟨qf0, qf1⟩, qlt⟩ := M12.out.box2 2 rfl
          go_wp2
          refine bodyPost_ret (Bx.res_ct Try.results19 rfl (TB.load (M20.out.blk 2 rfl) rfl rfl)) rfl ?_
          exact DlTo.yes (R := (((R.set jn ({ cy with par := x.par } : Nr)).set jn { ({ cy with par := x.par } : Nr) with A := A, n := n, cap := cp }).set p ⟨⟨#[]⟩, -1, false, none, 0, 0⟩)) (N := (gone (setDs (upd T.nodes jn (fun z => { z with par := x.par })) jn KD) p)) HP.out (by rw [HD.out, HKO.out, ← del_kid hjp]) M20.out.rest.rest.rest (HE12.out)
        · obtain ⟨u, hu⟩ := Int.eq_ofNat_of_zero_le (by omega : 0 ≤ x.par)
          rw [hu] at hpar ⊢
          have HU := Lib.hid hu
          have hun : (u : Int) < (nn : Int) := by omega
          have HCH2 := Lib.hid (children_any Ab' nb cb' (some ⟨g, 0, none⟩) nn cn' ⟨T.base, (gone (setDs (upd T.nodes jn (fun z => { z with par := x.par })) jn KD) p)⟩ u w12 (TrM.tr ⟨M12.out.rest.rest.rest, HE12.out⟩) hn12')
          obtain ⟨K2, hK2⟩ : ∃ q, kids ((gone (setDs (upd T.nodes jn (fun z => { z with par := x.par })) jn KD) p)) u = q := ⟨_, rfl⟩
          have HK2 := Lib.hid hK2
          obtain ⟨ln, hln⟩ : ∃ q, K2.length = q := ⟨_, rfl⟩
          have HLN := Lib.hid hln
          clear hK2 hu hln hup
          by_cases hl0 : ln = 0
          · exact absurd (show (kids ((gone (setDs (upd T.nodes jn (fun z => { z with par := x.par })) jn KD) p)) u).isEmpty = true by rw [HK2.out, List.eq_nil_of_length_eq_zero (HLN.out.trans hl0)]; rfl) (by rw [show kids (gone (setDs (upd T.nodes jn (fun z => { z with par := x.par })) jn KD) p) (u : Int) = kids (gone (setDs (upd T.nodes jn (fun z => { z with par := x.par })) jn KD) p) x.par from congrArg _ HU.out.symm, gone_kid HCX.out hcl2 hjp]; simp)
          · have hl1 : ((ln : Int) == 0) = false := by simp; omega
            have hl2 : (kids ((gone (setDs (upd T.nodes jn (fun z => { z with par := x.par })) jn KD) p)) u).isEmpty = false := by rw [HK2.out]; cases K2 with | nil => exact absurd HLN.out.symm hl0 | cons a l => rfl
            have HEM := Lib.hid hl2
            clear hl2
            go_wp2_with (go_at_call 42; refine HCH2.out.mono ?_; rintro e w30 ⟨A30, cap30, rfl, hc30, ho30, h30⟩; rw [HK2.out, HLN.out] at hc30 ⊢; clear ho30; have M30 := Lib.hid (M12.out.keep h30); obtain ⟨⟨r0, r1⟩, ⟨rf0, rf1⟩, rlt⟩ := M30.out.box2 0 rfl; obtain ⟨⟨q0, q1⟩, ⟨qf0, qf1⟩, qlt⟩ := M30.out.box2 2 rfl)
            have M32 := Lib.hid M30.out
            have M20 := Lib.hid ((M32.out.put 2 rfl 0 (.slice Ab' nb cb')).put 2 rfl 1 (.slice (some ⟨g, 0, none⟩) nn cn'))
            go_wp2
            refine bodyPost_ret (Bx.res_ct Try.results19 rfl (TB.load (M20.out.blk 2 rfl) rfl rfl)) rfl ?_
            exact DlTo.yes (R := (((R.set jn ({ cy with par := x.par } : Nr)).set jn { ({ cy with par := x.par } : Nr) with A := A, n := n, cap := cp }).set p ⟨⟨#[]⟩, -1, false, none, 0, 0⟩)) (N := (gone (setDs (upd T.nodes jn (fun z => { z with par := x.par })) jn KD) p)) HP.out (by rw [HD.out, HKO.out, ← del_kid hjp]) M20.out.rest.rest.rest (HE12.out)
end Sn
end Go.Proofs.Ytncgihbnfmpdbaa
