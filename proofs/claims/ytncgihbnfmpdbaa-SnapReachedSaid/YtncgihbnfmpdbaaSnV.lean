/-
  Contracts: Write (chapter 41), of the program.
-/
import Derived.Test.YtncgihbnfmpdbaaSnO
set_option linter.unusedVariables false
set_option linter.unusedSimpArgs false
set_option maxRecDepth 100000
namespace Go.Proofs.Ytncgihbnfmpdbaa
open Go.RowKit
namespace Sn
/-- What Write hands back. -/
def WrTo (nb nn : Nat) (T : Tr) (n b : Int) (s : ByteArray) (w : World) (e : Ending) (w' : World) : Prop :=
  ∃ Ab cb An cn R, e = .returned (.tuple #[.agg #[.slice Ab nb cb, .slice An nn cn], .int .i64 (writeE T n b)]) ∧ TrM w w' Ab nb cb An nn cn (write T n b s) R
theorem WrTo.no {nb nn : Nat} {T : Tr} {n b k : Int} {s : ByteArray} {w w' : World} {Ab : Option Addr} {cb : Nat} {An : Option Addr} {cn : Nat} {R : List Nr} (h : writeE T n b = k) (hk : k ≠ 0) (hM : TrM w w' Ab nb cb An nn cn T R) :
    WrTo nb nn T n b s w (.returned (.tuple #[.agg #[.slice Ab nb cb, .slice An nn cn], .int .i64 k])) w' := by
  refine ⟨Ab, cb, An, cn, R, by rw [h], ?_⟩
  unfold write; rw [h, if_neg hk]; exact hM
theorem WrTo.yes {nb nn : Nat} {T : Tr} {n b : Int} {s : ByteArray} {w w' : World} {Ab : Option Addr} {cb : Nat} {An : Option Addr} {cn : Nat} {R : List Nr} {N : List Nd} (h : writeE T n b = 0) (hN : write T n b s = ⟨T.base, N⟩) (hM : Mem w w' (tRows w Ab nb cb An nn cn T.base R N)) (hE : NrsE R N) :
    WrTo nb nn T n b s w (.returned (.tuple #[.agg #[.slice Ab nb cb, .slice An nn cn], .int .i64 0])) w' := by
  refine ⟨Ab, cb, An, cn, R, by rw [h], ?_⟩
  rw [hN]; exact ⟨hM, hE⟩
theorem neq_f {a b : ByteArray} (h : decide (¬ a = b) = false) : (a.toList == b.toList) = true := by rw [nm_eq]; simpa using h
theorem neq_t {a b : ByteArray} (h : decide (¬ a = b) = true) : (a.toList == b.toList) = false := by rw [nm_eq]; simpa using h
set_option maxHeartbeats 8000000 in
theorem write_any (Ab : Option Addr) (nb cb : Nat) (An : Option Addr) (nn cn : Nat) (T : Tr) (n b : Int) (s : ByteArray) (w : World) (h : TrR w Ab nb An nn T) (hv : Ok T) (hs : s.size = 128) :
    Calls Try.prog 18 #[.agg #[.slice Ab nb cb, .slice An nn cn], .int .i64 n, .int .i64 b, .string s] w (WrTo nb nn T n b s w) := by
  have HCL := Lib.hid (fun w' (q : Held w w') => clone_any Ab nb cb An nn cn T w' (h.held q) hv)
  have HHA := Lib.hid (fun w' (q : Held w w') => has_any Ab nb cb An nn cn T n w' (h.held q) hv)
  have M0 := Lib.hid (((Mem.start w).alloc #[.slice Ab nb cb, .slice An nn cn] 27).alloc' (b := w.heap.size + 1) (by simp) #[.slice none 0 0, .slice none 0 0] 27)
  have hnn := h.nn
  have hbl := h.bs.1
  have HNN := Lib.hid hnn
  have hsz : ((s.size : Int) != 128) = false := by rw [hs]; rfl
  obtain ⟨hb, hhb⟩ : ∃ q, hasB T n = q := ⟨_, rfl⟩
  cases hb
  · have HP := Lib.hid (writeE_no (T := T) (n := n) (b := b) (fun q => by unfold hasB at hhb; rw [q.1, Bool.or_true] at hhb; cases hhb))
    rw [hhb] at HHA
    clear h hv hhb hnn hbl
    go_enter Try.func18, Try.ntmps18
    go_wp2_with fail
    refine (HCL.out _ M0.out.held).mono ?_
    rintro e w1 ⟨Ab', cb', An', cn', R, rfl, hT1⟩
    have HE := Lib.hid hT1.eq
    have M1 := Lib.hid ((TrM.join M0.out hT1).allocF rfl #[.slice Ab' nb cb', .slice An' nn cn'] 27)
    obtain ⟨⟨z0, z1⟩, _, zlt⟩ := M1.out.box2 1 rfl
    have HRL : Hid (R.length = nn) := show _ = _ by rw [hT1.eq.1, HNN.out]
    clear hT1
    go_wp2_with (first | (go_at_call 25; refine (HHA.out _ M1.out.held).mono ?_; rintro e w2 ⟨rfl, h2⟩; have M2 := Lib.hid (M1.out.keep h2); obtain ⟨⟨a0, a1⟩, ⟨af0, af1⟩, alt⟩ := M2.out.box2 1 rfl; obtain ⟨⟨c0, c1⟩, ⟨cf0, cf1⟩, clt⟩ := M2.out.box2 0 rfl; obtain ⟨⟨d0, d1⟩, ⟨df0, df1⟩, dlt⟩ := M2.out.box2 2 rfl))
    have M9 := Lib.hid ((M2.out.put 2 rfl 0 (.slice Ab' nb cb')).put 2 rfl 1 (.slice An' nn cn'))
    refine bodyPost_ret (Bx.res_ct Try.results18 rfl (TB.load (M9.out.blk 2 rfl) rfl rfl)) rfl ?_
    exact WrTo.no HP.out (by decide) ⟨M9.out.rest.rest.rest, HE.out⟩
  · rw [hhb] at HHA
    by_cases hm1 : n = -1
    · have HP := Lib.hid (writeE_no (T := T) (n := n) (b := b) (fun q => by obtain ⟨i, x, e, _⟩ := ex_iff.1 q.1; omega))
      have hb1 : (n == -1) = true := by simp [hm1]
      clear h hv hhb hnn hbl hm1
      go_enter Try.func18, Try.ntmps18
      go_wp2_with fail
      refine (HCL.out _ M0.out.held).mono ?_
      rintro e w1 ⟨Ab', cb', An', cn', R, rfl, hT1⟩
      have HE := Lib.hid hT1.eq
      have M1 := Lib.hid ((TrM.join M0.out hT1).allocF rfl #[.slice Ab' nb cb', .slice An' nn cn'] 27)
      obtain ⟨⟨z0, z1⟩, _, zlt⟩ := M1.out.box2 1 rfl
      have HRL : Hid (R.length = nn) := show _ = _ by rw [hT1.eq.1, HNN.out]
      clear hT1
      go_wp2_with (first | (go_at_call 25; refine (HHA.out _ M1.out.held).mono ?_; rintro e w2 ⟨rfl, h2⟩; have M2 := Lib.hid (M1.out.keep h2); obtain ⟨⟨a0, a1⟩, ⟨af0, af1⟩, alt⟩ := M2.out.box2 1 rfl; obtain ⟨⟨c0, c1⟩, ⟨cf0, cf1⟩, clt⟩ := M2.out.box2 0 rfl; obtain ⟨⟨d0, d1⟩, ⟨df0, df1⟩, dlt⟩ := M2.out.box2 2 rfl))
      have M9 := Lib.hid ((M2.out.put 2 rfl 0 (.slice Ab' nb cb')).put 2 rfl 1 (.slice An' nn cn'))
      refine bodyPost_ret (Bx.res_ct Try.results18 rfl (TB.load (M9.out.blk 2 rfl) rfl rfl)) rfl ?_
      exact WrTo.no HP.out (by decide) ⟨M9.out.rest.rest.rest, HE.out⟩
    have hb1 : (n == -1) = false := by simp [hm1]
    by_cases h0 : b < 0
    · have HP := Lib.hid (writeE_no (T := T) (n := n) (b := b) (fun q => by omega))
      clear h hv hhb hnn hbl
      go_enter Try.func18, Try.ntmps18
      go_wp2_with fail
      refine (HCL.out _ M0.out.held).mono ?_
      rintro e w1 ⟨Ab', cb', An', cn', R, rfl, hT1⟩
      have HE := Lib.hid hT1.eq
      have M1 := Lib.hid ((TrM.join M0.out hT1).allocF rfl #[.slice Ab' nb cb', .slice An' nn cn'] 27)
      obtain ⟨⟨z0, z1⟩, _, zlt⟩ := M1.out.box2 1 rfl
      have HRL : Hid (R.length = nn) := show _ = _ by rw [hT1.eq.1, HNN.out]
      clear hT1
      go_wp2_with (first | (go_at_call 25; refine (HHA.out _ M1.out.held).mono ?_; rintro e w2 ⟨rfl, h2⟩; have M2 := Lib.hid (M1.out.keep h2); obtain ⟨⟨a0, a1⟩, ⟨af0, af1⟩, alt⟩ := M2.out.box2 1 rfl; obtain ⟨⟨c0, c1⟩, ⟨cf0, cf1⟩, clt⟩ := M2.out.box2 0 rfl; obtain ⟨⟨d0, d1⟩, ⟨df0, df1⟩, dlt⟩ := M2.out.box2 2 rfl))
      have M9 := Lib.hid ((M2.out.put 2 rfl 0 (.slice Ab' nb cb')).put 2 rfl 1 (.slice An' nn cn'))
      refine bodyPost_ret (Bx.res_ct Try.results18 rfl (TB.load (M9.out.blk 2 rfl) rfl rfl)) rfl ?_
      exact WrTo.no HP.out (by decide) ⟨M9.out.rest.rest.rest, HE.out⟩
    by_cases h9 : (nb : Int) ≤ b
    · have HP := Lib.hid (writeE_no (T := T) (n := n) (b := b) (fun q => by omega))
      clear h hv hhb hnn hbl
      go_enter Try.func18, Try.ntmps18
      go_wp2_with fail
      refine (HCL.out _ M0.out.held).mono ?_
      rintro e w1 ⟨Ab', cb', An', cn', R, rfl, hT1⟩
      have HE := Lib.hid hT1.eq
      have M1 := Lib.hid ((TrM.join M0.out hT1).allocF rfl #[.slice Ab' nb cb', .slice An' nn cn'] 27)
      obtain ⟨⟨z0, z1⟩, _, zlt⟩ := M1.out.box2 1 rfl
      have HRL : Hid (R.length = nn) := show _ = _ by rw [hT1.eq.1, HNN.out]
      clear hT1
      go_wp2_with (first | (go_at_call 25; refine (HHA.out _ M1.out.held).mono ?_; rintro e w2 ⟨rfl, h2⟩; have M2 := Lib.hid (M1.out.keep h2); obtain ⟨⟨a0, a1⟩, ⟨af0, af1⟩, alt⟩ := M2.out.box2 1 rfl; obtain ⟨⟨c0, c1⟩, ⟨cf0, cf1⟩, clt⟩ := M2.out.box2 0 rfl; obtain ⟨⟨d0, d1⟩, ⟨df0, df1⟩, dlt⟩ := M2.out.box2 2 rfl))
      have M9 := Lib.hid ((M2.out.put 2 rfl 0 (.slice Ab' nb cb')).put 2 rfl 1 (.slice An' nn cn'))
      refine bodyPost_ret (Bx.res_ct Try.results18 rfl (TB.load (M9.out.blk 2 rfl) rfl rfl)) rfl ?_
      exact WrTo.no HP.out (by decide) ⟨M9.out.rest.rest.rest, HE.out⟩
    have hxt : ex T.nodes n = true := by unfold hasB at hhb; rw [decide_eq_false hm1] at hhb; exact hhb
    obtain ⟨p, x, rfl, hx, hlx⟩ := ex_iff.1 hxt
    obtain ⟨k, rfl⟩ := Int.eq_ofNat_of_zero_le (by omega : 0 ≤ b)
    have hpn : (p : Int) < (nn : Int) := by have := (List.getElem?_eq_some_iff.1 hx).1; omega
    have HX := Lib.hid hx
    have HWE := Lib.hid (writeE_at (b := k) hx hlx (by omega) (by omega))
    have hxd := (hv.node p x hx).ds
    have HXD := Lib.hid hxd
    have hdl := ok_dl hv p x hx
    have hpar := ok_par_lt hv hx
    have HSE := Lib.hid (fun w' (q : Held w w') => see_any Ab nb cb An nn cn T x.par k w' (h.held q) hv (by omega) (by omega) (by omega) (fun i x hx => Int.le_trans (ok_dl hv i x hx) (by decide)))
    have hk9 : (k : Int) < nb := by omega
    clear hxt hm1 h9 hxd
    obtain ⟨xo, hxo⟩ : ∃ q, x.op = q := ⟨_, rfl⟩
    rw [hxo] at HWE
    have HXO := Lib.hid hxo
    cases xo
    · have HP : Hid (writeE T p k = 4103) := HWE
      clear h hv hhb hnn hbl hxo hx
      go_enter Try.func18, Try.ntmps18
      go_wp2_with fail
      refine (HCL.out _ M0.out.held).mono ?_
      rintro e w1 ⟨Ab', cb', An', cn', R, rfl, hT1⟩
      have HE := Lib.hid hT1.eq
      have M1 := Lib.hid ((TrM.join M0.out hT1).allocF rfl #[.slice Ab' nb cb', .slice An' nn cn'] 27)
      obtain ⟨⟨z0, z1⟩, _, zlt⟩ := M1.out.box2 1 rfl
      have HRL : Hid (R.length = nn) := show _ = _ by rw [hT1.eq.1, HNN.out]
      clear hT1
      go_wp2_with (first | (go_at_call 25; refine (HHA.out _ M1.out.held).mono ?_; rintro e w2 ⟨rfl, h2⟩; have M2 := Lib.hid (M1.out.keep h2); obtain ⟨⟨a0, a1⟩, ⟨af0, af1⟩, alt⟩ := M2.out.box2 1 rfl; obtain ⟨⟨c0, c1⟩, ⟨cf0, cf1⟩, clt⟩ := M2.out.box2 0 rfl; obtain ⟨⟨d0, d1⟩, ⟨df0, df1⟩, dlt⟩ := M2.out.box2 2 rfl; obtain ⟨g, y, rfl, hge, hlt, hy, hcell⟩ := M2.out.slot 4 rfl nrC_len (by decide) (k := p) (by rw [HRL.out]; omega); have hq := HE.out.2 p y x hy HX.out; have HQ := Lib.hid hq; have z2 := (hcell 2 (by decide)).2 (.bool y.op) rfl; rw [hq.op, HXO.out] at z2))
      have M9 := Lib.hid ((M2.out.put 2 rfl 0 (.slice Ab' nb cb')).put 2 rfl 1 (.slice (some ⟨g, 0, none⟩) nn cn'))
      refine bodyPost_ret (Bx.res_ct Try.results18 rfl (TB.load (M9.out.blk 2 rfl) rfl rfl)) rfl ?_
      exact WrTo.no HP.out (by decide) ⟨M9.out.rest.rest.rest, HE.out⟩
    · have HP : Hid (writeE T p k = 0) := HWE
      have HW := Lib.hid (write_at (s := s) hx HP.out)
      obtain ⟨sv, hsv⟩ : ∃ q, sees T x.par k = q := ⟨_, rfl⟩
      rw [hsv] at HSE HW
      clear h hv hhb hnn hbl hxo hx hsv
      go_enter Try.func18, Try.ntmps18
      go_wp2_with fail
      refine (HCL.out _ M0.out.held).mono ?_
      rintro e w1 ⟨Ab', cb', An', cn', R, rfl, hT1⟩
      have HE := Lib.hid hT1.eq
      have M1 := Lib.hid ((TrM.join M0.out hT1).allocF rfl #[.slice Ab' nb cb', .slice An' nn cn'] 27)
      obtain ⟨⟨z0, z1⟩, _, zlt⟩ := M1.out.box2 1 rfl
      have HRL : Hid (R.length = nn) := show _ = _ by rw [hT1.eq.1, HNN.out]
      clear hT1
      go_wp2_with (first | (go_at_call 25; refine (HHA.out _ M1.out.held).mono ?_; rintro e w2 ⟨rfl, h2⟩; have M2 := Lib.hid (M1.out.keep h2); obtain ⟨⟨a0, a1⟩, ⟨af0, af1⟩, alt⟩ := M2.out.box2 1 rfl; obtain ⟨⟨c0, c1⟩, ⟨cf0, cf1⟩, clt⟩ := M2.out.box2 0 rfl; obtain ⟨⟨d0, d1⟩, ⟨df0, df1⟩, dlt⟩ := M2.out.box2 2 rfl; obtain ⟨g, y, rfl, hge, hlt, hy, hcell⟩ := M2.out.slot 4 rfl nrC_len (by decide) (k := p) (by rw [HRL.out]; omega); have hq := HE.out.2 p y x hy HX.out; have HQ := Lib.hid hq; have z2 := (hcell 2 (by decide)).2 (.bool y.op) rfl; rw [hq.op, HXO.out] at z2; have z1 := (hcell 1 (by decide)).2 (.int .i64 y.par) rfl; rw [hq.par] at z1; have z3 := (hcell 3 (by decide)).2 (.slice y.A y.n y.cap) rfl; have hsl := Lib.hid (Own.reads dlC_len (M2.out.row (p + 5) (v := .slice y.A y.n y.cap) (L := x.ds) (f := dlC) (e := 38) (s := 2) (base := w.heap.size) (dRows_at hy HX.out))).1))
      obtain ⟨wA, hwA⟩ : ∃ wA, wA = w2 := ⟨_, rfl⟩
      rw [← hwA] at M2 z1 z2 z3 hsl hcell hlt a0 a1 alt c0 c1 clt ⊢
      have hyn1 : y.n ≤ x.ds.length := Nat.le_of_eq hq.n
      have hyn2 : x.ds.length ≤ y.n := Nat.le_of_eq hq.n.symm
      clear hq
      go_loopw [12] (fun i wr => ∃ m : Nat, i = .int .i64 m ∧ m ≤ y.n ∧ (∀ j d, j < m → x.ds[j]? = some d → d.b < (k : Int)) ∧ Held wA wr) (fun i _ => y.n - (intOf i).toNat)
      case atStart => exact ⟨0, rfl, Nat.zero_le _, fun j d hj => absurd hj (Nat.not_lt_zero _), Held.refl _⟩
      case round =>
        obtain ⟨m, rfl, hm, hbef, hw⟩ := hrel
        have HB := Lib.hid hbef
        have HWR := Lib.hid hw
        have M3 := Lib.hid (M2.out.keep hw)
        replace z1 := hw.cell z1
        replace z2 := hw.cell z2
        replace z3 := hw.cell z3
        clear hw hbef a0 a1 alt c0 c1 clt d0 d1 dlt h2 hwA hcell
        by_cases hlt2 : (m : Int) < y.n
        · obtain ⟨b2, o2, d, hA2, lb2, hd, y0, y1⟩ := dl_at hsl.out HWR.out (k := m) (by omega)
          have HD := Lib.hid hd
          have HRW : Hid ((dRows w R T.nodes)[p]? = some (.row 38 2 dlC w.heap.size (.slice (some ⟨b2, o2, none⟩) y.n y.cap) x.ds)) := show _ = _ by rw [← hA2]; exact dRows_at hy HX.out
          rw [hA2] at z3
          clear hA2
          have hlb2 := lt_of_cell y0
          simp only at hlb2
          have hd2 : (d.b : Int) < (k : Int) ∨ ¬ d.b < (k : Int) := by omega
          by_cases hb2 : d.b < (k : Int)
          · go_wp2
            go_roundw
            case rel =>
              refine ⟨m + 1, by go_num, by omega, fun j d' hj hd' => ?_, HWR.out⟩
              by_cases e : j = m
              · subst e; rw [HD.out] at hd'; injection hd' with hd'; subst hd'; exact hb2
              · exact HB.out j d' (by omega) hd'
            case measure => (simp [intOf]) <;> omega
          · by_cases he : d.b = (k : Int)
            · have heq : (d.b == (k : Int)) = true := by simp [he]
              have HC := Lib.hid (Cut.yes HXD.out.sorted HB.out HD.out he)
              have hm1 : m + 1 ≤ x.ds.length := by omega
              clear he
              go_wp2_with fail
              refine (SlcDl.delete_any dlC_len dlC_one w.heap.size _ x.ds m (m + 1) _ (M3.out.row (p + 5) HRW.out) (by omega) hm1 (by omega)).mono ?_
              intro e w6 hgot
              obtain ⟨D1, hD1⟩ : ∃ q, x.ds.take m ++ x.ds.drop (m + 1) = q := ⟨_, rfl⟩
              rw [hD1] at hgot HC
              obtain ⟨A6, cap6, rfl, hc6, hM6⟩ := M3.out.gotten (p + 5) HRW.out hgot
              have M6 := Lib.hid hM6
              clear hM6 hgot z1 z2 z3 y0 y1 hlb2
              have q3 := M6.out.cellAt 4 rfl nrC_len (by decide) hy (j := 3) (by decide)
              have s3 := q3.2 _ rfl
              have s3f := q3.1
              have M7 : Hid (Mem w (w6.setCell ⟨g, p * 4 + 3, none⟩ (.slice A6 D1.length cap6)) (.box w1.heap.size #[.slice Ab' nb cb', .slice (some ⟨g, 0, none⟩) nn cn'] 27 :: .box w.heap.size #[.slice Ab nb cb, .slice An nn cn] 27 :: .box (w.heap.size + 1) #[.slice none 0 0, .slice none 0 0] 27 :: tRows w Ab' nb cb' (some ⟨g, 0, none⟩) nn cn' T.base (R.set p ({ y with A := A6, n := D1.length, cap := cap6 } : Nr)) (setDs T.nodes p D1))) := show Mem _ _ _ by
                have := M6.out.putAt 4 rfl nrC_len hy (j := 3) (by decide) (.slice A6 D1.length cap6) ({ y with A := A6, n := D1.length, cap := cap6 } : Nr) rfl
                unfold tRows
                rw [← dRows_put hy HX.out]; exact this
              have HE1 := Lib.hid (HE.out.ds hy HX.out A6 D1.length cap6 D1 rfl)
              have hy1 : (R.set p ({ y with A := A6, n := D1.length, cap := cap6 } : Nr))[p]? = some ({ y with A := A6, n := D1.length, cap := cap6 } : Nr) := List.getElem?_set_self (List.getElem?_eq_some_iff.1 hy).1
              have hx1 : (setDs T.nodes p D1)[p]? = some { x with ds := D1 } := by rw [setDs_at HX.out, if_pos rfl]
              have HX1 := Lib.hid hx1
              clear hx1
              have s1 := (M6.out.cellAt 4 rfl nrC_len (by decide) hy (j := 1) (by decide)).2 (.int .i64 y.par) rfl
              rw [HQ.out.par] at s1
              obtain ⟨⟨v0, v1⟩, ⟨vf0, vf1⟩, vlt⟩ := M6.out.box2 1 rfl
              clear hc6 hD1
              go_wp2_with fail
              obtain ⟨wB, hwB⟩ : ∃ q, q = w6.setCell ⟨g, p * 4 + 3, none⟩ (.slice A6 D1.length cap6) := ⟨_, rfl⟩
              rw [← hwB] at M7 ⊢
              clear hwB s1 s3 s3f q3 v0 v1 vf0 vf1 vlt
              obtain ⟨⟨t0, t1⟩, ⟨tf0, tf1⟩, tlt⟩ := M7.out.box2 1 rfl
              have q1 := (M7.out.cellAt 4 rfl nrC_len (by decide) hy1 (j := 1) (by decide)).2 (.int .i64 y.par) rfl
              rw [HQ.out.par] at q1
              obtain ⟨is, his⟩ : ∃ q, decide (¬ s = sv) = q := ⟨_, rfl⟩
              rw [his] at HW
              cases is
              · have hnb := neq_f his
                clear his
                go_region_held3 (fun w' => w'.cell? ⟨w.heap.size, 0, none⟩ = some (.slice Ab nb cb) ∧ w'.cell? ⟨w.heap.size, 1, none⟩ = some (.slice An nn cn) ∧ w'.cell? ⟨g, p * 4 + 1, none⟩ = some (.int .i64 x.par) ∧ Held wB w')
                  ((repeat' refine And.intro ?_ ?_) <;> first | exact t0 | exact t1 | exact q1 | exact (Held.refl _).drew | exact Held.cell (by assumption) t0 | exact Held.cell (by assumption) t1 | exact Held.cell (by assumption) q1 | exact (by assumption))
                  (first | (go_at_call 26; refine (HSE.out _ (M7.out.held.step (Held.refl _).drew)).mono ?_; rintro e w8 ⟨rfl, h8⟩; have k8 : Held wB w8 := (Held.refl _).drew.step h8) | fail)
                have M8 := Lib.hid (M7.out.keep k8)
                clear h8 t0 t1 tf0 tf1 tlt q1
                have M20 := Lib.hid ((M8.out.put 2 rfl 0 (.slice Ab' nb cb')).put 2 rfl 1 (.slice (some ⟨g, 0, none⟩) nn cn'))
                obtain ⟨⟨r0, r1⟩, ⟨rf0, rf1⟩, rlt⟩ := M8.out.box2 0 rfl
                obtain ⟨⟨q0, q1⟩, ⟨qf0, qf1⟩, qlt⟩ := M8.out.box2 2 rfl
                go_wp2
                refine bodyPost_ret (Bx.res_ct Try.results18 rfl (TB.load (M20.out.blk 2 rfl) rfl rfl)) rfl ?_
                exact WrTo.yes (R := (R.set p ({ y with A := A6, n := D1.length, cap := cap6 } : Nr))) (N := (setDs T.nodes p D1)) HP.out (by rw [HW.out, ← HC.out.whole s]) M20.out.rest.rest.rest (HE1.out)
              · have hnb := neq_t his
                clear his
                go_region_held3 (fun w' => w'.cell? ⟨w.heap.size, 0, none⟩ = some (.slice Ab nb cb) ∧ w'.cell? ⟨w.heap.size, 1, none⟩ = some (.slice An nn cn) ∧ w'.cell? ⟨g, p * 4 + 1, none⟩ = some (.int .i64 x.par) ∧ Held wB w')
                  ((repeat' refine And.intro ?_ ?_) <;> first | exact t0 | exact t1 | exact q1 | exact (Held.refl _).drew | exact Held.cell (by assumption) t0 | exact Held.cell (by assumption) t1 | exact Held.cell (by assumption) q1 | exact (by assumption))
                  (first | (go_at_call 26; refine (HSE.out _ (M7.out.held.step (Held.refl _).drew)).mono ?_; rintro e w8 ⟨rfl, h8⟩; have k8 : Held wB w8 := (Held.refl _).drew.step h8) | fail)
                have M8 := Lib.hid (M7.out.keep k8)
                clear h8 t0 t1 tf0 tf1 tlt q1
                have q3 := M8.out.cellAt 4 rfl nrC_len (by decide) hy1 (j := 3) (by decide)
                have s3 := q3.2 _ rfl
                have s3f := q3.1
                have hg8 : g < w8.heap.size := by have := lt_of_cell s3; exact this
                have HO := Lib.hid (M8.out.row (p + 5) (v := .slice A6 D1.length cap6) (L := D1) (f := dlC) (e := 38) (s := 2) (base := w.heap.size) (dRows_at hy1 HX1.out))
                go_wp2_with fail
                have M10 := Lib.hid (M8.out.skip (.cells #[.int .i64 (k : Int), .string s] 38))
                refine (SlcDl.insert_any dlC_len dlC_one w.heap.size _ D1 m ⟨(k : Int), s⟩ _ (M10.out.row (p + 5) (dRows_at hy1 HX1.out)) (HC.out.k) (by have := HC.out.len; omega) (by have := M10.out.held.le; exact this) w8.heap.size (heap_alloc_new _ _) (fun e => by have := (World.ownsRow.lt HO.out _ e).2; omega)).mono ?_
                intro e w11 hgot
                have HD2 := Lib.hid (HC.out.put s)
                obtain ⟨D2, hD2⟩ : ∃ q, D1.take m ++ [(⟨(k : Int), s⟩ : Dl)] ++ D1.drop m = q := ⟨_, rfl⟩
                rw [hD2] at hgot HD2
                obtain ⟨A11, cap11, rfl, hc11, hM11⟩ := M10.out.gotten (p + 5) (dRows_at hy1 HX1.out) hgot
                have M11 := Lib.hid hM11
                clear hM11 hgot s3 s3f q3
                have q3 := M11.out.cellAt 4 rfl nrC_len (by decide) hy1 (j := 3) (by decide)
                have s3 := q3.2 _ rfl
                have s3f := q3.1
                have M12 : Hid (Mem w (w11.setCell ⟨g, p * 4 + 3, none⟩ (.slice A11 D2.length cap11)) (.box w1.heap.size #[.slice Ab' nb cb', .slice (some ⟨g, 0, none⟩) nn cn'] 27 :: .box w.heap.size #[.slice Ab nb cb, .slice An nn cn] 27 :: .box (w.heap.size + 1) #[.slice none 0 0, .slice none 0 0] 27 :: tRows w Ab' nb cb' (some ⟨g, 0, none⟩) nn cn' T.base (((R.set p ({ y with A := A6, n := D1.length, cap := cap6 } : Nr))).set p { (({ y with A := A6, n := D1.length, cap := cap6 } : Nr) : Nr) with A := A11, n := D2.length, cap := cap11 }) (setDs (setDs T.nodes p D1) p D2))) := show Mem _ _ _ by
                  have := M11.out.putAt 4 rfl nrC_len hy1 (j := 3) (by decide) (.slice A11 D2.length cap11) { (({ y with A := A6, n := D1.length, cap := cap6 } : Nr) : Nr) with A := A11, n := D2.length, cap := cap11 } rfl
                  unfold tRows
                  rw [← dRows_put hy1 HX1.out]; exact this
                clear hc11 hD2
                have M20 := Lib.hid ((M12.out.put 2 rfl 0 (.slice Ab' nb cb')).put 2 rfl 1 (.slice (some ⟨g, 0, none⟩) nn cn'))
                obtain ⟨⟨r0, r1⟩, ⟨rf0, rf1⟩, rlt⟩ := M12.out.box2 0 rfl
                obtain ⟨⟨q0, q1⟩, ⟨qf0, qf1⟩, qlt⟩ := M12.out.box2 2 rfl
                go_wp2
                refine bodyPost_ret (Bx.res_ct Try.results18 rfl (TB.load (M20.out.blk 2 rfl) rfl rfl)) rfl ?_
                exact WrTo.yes (R := (((R.set p ({ y with A := A6, n := D1.length, cap := cap6 } : Nr))).set p { (({ y with A := A6, n := D1.length, cap := cap6 } : Nr) : Nr) with A := A11, n := D2.length, cap := cap11 })) (N := (setDs (setDs T.nodes p D1) p D2)) HP.out (by rw [HW.out, HD2.out, setDs_twice]) M20.out.rest.rest.rest ((HE1.out).ds hy1 HX1.out A11 D2.length cap11 D2 rfl)
            · have heq : (d.b == (k : Int)) = false := by simp [he]
              have HC := Lib.hid (Cut.no HXD.out.sorted (by omega) HB.out (fun d' hd' => by rw [HD.out] at hd'; injection hd' with hd'; subst hd'; omega))
              clear he
              go_wp2_with fail
              obtain ⟨⟨t0, t1⟩, ⟨tf0, tf1⟩, tlt⟩ := M3.out.box2 1 rfl
              have q1 := (M3.out.cellAt 4 rfl nrC_len (by decide) hy (j := 1) (by decide)).2 (.int .i64 y.par) rfl
              rw [HQ.out.par] at q1
              obtain ⟨is, his⟩ : ∃ q, decide (¬ s = sv) = q := ⟨_, rfl⟩
              rw [his] at HW
              cases is
              · have hnb := neq_f his
                clear his
                go_region_held3 (fun w' => w'.cell? ⟨w.heap.size, 0, none⟩ = some (.slice Ab nb cb) ∧ w'.cell? ⟨w.heap.size, 1, none⟩ = some (.slice An nn cn) ∧ w'.cell? ⟨g, p * 4 + 1, none⟩ = some (.int .i64 x.par) ∧ Held wr w')
                  ((repeat' refine And.intro ?_ ?_) <;> first | exact t0 | exact t1 | exact q1 | exact (Held.refl _).drew | exact Held.cell (by assumption) t0 | exact Held.cell (by assumption) t1 | exact Held.cell (by assumption) q1 | exact (by assumption))
                  (first | (go_at_call 26; refine (HSE.out _ (M3.out.held.step (Held.refl _).drew)).mono ?_; rintro e w8 ⟨rfl, h8⟩; have k8 : Held wr w8 := (Held.refl _).drew.step h8) | fail)
                have M8 := Lib.hid (M3.out.keep k8)
                clear h8 t0 t1 tf0 tf1 tlt q1
                have M20 := Lib.hid ((M8.out.put 2 rfl 0 (.slice Ab' nb cb')).put 2 rfl 1 (.slice (some ⟨g, 0, none⟩) nn cn'))
                obtain ⟨⟨r0, r1⟩, ⟨rf0, rf1⟩, rlt⟩ := M8.out.box2 0 rfl
                obtain ⟨⟨q0, q1⟩, ⟨qf0, qf1⟩, qlt⟩ := M8.out.box2 2 rfl
                go_wp2
                refine bodyPost_ret (Bx.res_ct Try.results18 rfl (TB.load (M20.out.blk 2 rfl) rfl rfl)) rfl ?_
                exact WrTo.yes (R := R) (N := T.nodes) HP.out (by rw [HW.out, ← HC.out.whole s, setDs_self HX.out]) M20.out.rest.rest.rest (HE.out)
              · have hnb := neq_t his
                clear his
                go_region_held3 (fun w' => w'.cell? ⟨w.heap.size, 0, none⟩ = some (.slice Ab nb cb) ∧ w'.cell? ⟨w.heap.size, 1, none⟩ = some (.slice An nn cn) ∧ w'.cell? ⟨g, p * 4 + 1, none⟩ = some (.int .i64 x.par) ∧ Held wr w')
                  ((repeat' refine And.intro ?_ ?_) <;> first | exact t0 | exact t1 | exact q1 | exact (Held.refl _).drew | exact Held.cell (by assumption) t0 | exact Held.cell (by assumption) t1 | exact Held.cell (by assumption) q1 | exact (by assumption))
                  (first | (go_at_call 26; refine (HSE.out _ (M3.out.held.step (Held.refl _).drew)).mono ?_; rintro e w8 ⟨rfl, h8⟩; have k8 : Held wr w8 := (Held.refl _).drew.step h8) | fail)
                have M8 := Lib.hid (M3.out.keep k8)
                clear h8 t0 t1 tf0 tf1 tlt q1
                have q3 := M8.out.cellAt 4 rfl nrC_len (by decide) hy (j := 3) (by decide)
                have s3 := q3.2 _ rfl
                have s3f := q3.1
                have hg8 : g < w8.heap.size := by have := lt_of_cell s3; exact this
                have HO := Lib.hid (M8.out.row (p + 5) (v := .slice y.A y.n y.cap) (L := x.ds) (f := dlC) (e := 38) (s := 2) (base := w.heap.size) (dRows_at hy HX.out))
                go_wp2_with fail
                have M10 := Lib.hid (M8.out.skip (.cells #[.int .i64 (k : Int), .string s] 38))
                refine (SlcDl.insert_any dlC_len dlC_one w.heap.size _ x.ds m ⟨(k : Int), s⟩ _ (M10.out.row (p + 5) (dRows_at hy HX.out)) (HC.out.k) (by have := HC.out.len; omega) (by have := M10.out.held.le; exact this) w8.heap.size (heap_alloc_new _ _) (fun e => by have := (World.ownsRow.lt HO.out _ e).2; omega)).mono ?_
                intro e w11 hgot
                have HD2 := Lib.hid (HC.out.put s)
                obtain ⟨D2, hD2⟩ : ∃ q, x.ds.take m ++ [(⟨(k : Int), s⟩ : Dl)] ++ x.ds.drop m = q := ⟨_, rfl⟩
                rw [hD2] at hgot HD2
                obtain ⟨A11, cap11, rfl, hc11, hM11⟩ := M10.out.gotten (p + 5) (dRows_at hy HX.out) hgot
                have M11 := Lib.hid hM11
                clear hM11 hgot s3 s3f q3
                have q3 := M11.out.cellAt 4 rfl nrC_len (by decide) hy (j := 3) (by decide)
                have s3 := q3.2 _ rfl
                have s3f := q3.1
                have M12 : Hid (Mem w (w11.setCell ⟨g, p * 4 + 3, none⟩ (.slice A11 D2.length cap11)) (.box w1.heap.size #[.slice Ab' nb cb', .slice (some ⟨g, 0, none⟩) nn cn'] 27 :: .box w.heap.size #[.slice Ab nb cb, .slice An nn cn] 27 :: .box (w.heap.size + 1) #[.slice none 0 0, .slice none 0 0] 27 :: tRows w Ab' nb cb' (some ⟨g, 0, none⟩) nn cn' T.base ((R).set p { (y : Nr) with A := A11, n := D2.length, cap := cap11 }) (setDs T.nodes p D2))) := show Mem _ _ _ by
                  have := M11.out.putAt 4 rfl nrC_len hy (j := 3) (by decide) (.slice A11 D2.length cap11) { (y : Nr) with A := A11, n := D2.length, cap := cap11 } rfl
                  unfold tRows
                  rw [← dRows_put hy HX.out]; exact this
                clear hc11 hD2
                have M20 := Lib.hid ((M12.out.put 2 rfl 0 (.slice Ab' nb cb')).put 2 rfl 1 (.slice (some ⟨g, 0, none⟩) nn cn'))
                obtain ⟨⟨r0, r1⟩, ⟨rf0, rf1⟩, rlt⟩ := M12.out.box2 0 rfl
                obtain ⟨⟨q0, q1⟩, ⟨qf0, qf1⟩, qlt⟩ := M12.out.box2 2 rfl
                go_wp2
                refine bodyPost_ret (Bx.res_ct Try.results18 rfl (TB.load (M20.out.blk 2 rfl) rfl rfl)) rfl ?_
                exact WrTo.yes (R := ((R).set p { (y : Nr) with A := A11, n := D2.length, cap := cap11 })) (N := (setDs T.nodes p D2)) HP.out (by rw [HW.out, HD2.out]) M20.out.rest.rest.rest ((HE.out).ds hy HX.out A11 D2.length cap11 D2 rfl)
        · have HC := Lib.hid (Cut.no (b := (k : Int)) HXD.out.sorted (by omega) HB.out (fun d' hd' => by have := (List.getElem?_eq_some_iff.1 hd').1; omega))
          go_wp2_with fail
          obtain ⟨⟨t0, t1⟩, ⟨tf0, tf1⟩, tlt⟩ := M3.out.box2 1 rfl
          have q1 := (M3.out.cellAt 4 rfl nrC_len (by decide) hy (j := 1) (by decide)).2 (.int .i64 y.par) rfl
          rw [HQ.out.par] at q1
          obtain ⟨is, his⟩ : ∃ q, decide (¬ s = sv) = q := ⟨_, rfl⟩
          rw [his] at HW
          cases is
          · have hnb := neq_f his
            clear his
            go_region_held3 (fun w' => w'.cell? ⟨w.heap.size, 0, none⟩ = some (.slice Ab nb cb) ∧ w'.cell? ⟨w.heap.size, 1, none⟩ = some (.slice An nn cn) ∧ w'.cell? ⟨g, p * 4 + 1, none⟩ = some (.int .i64 x.par) ∧ Held wr w')
              ((repeat' refine And.intro ?_ ?_) <;> first | exact t0 | exact t1 | exact q1 | exact (Held.refl _).drew | exact Held.cell (by assumption) t0 | exact Held.cell (by assumption) t1 | exact Held.cell (by assumption) q1 | exact (by assumption))
              (first | (go_at_call 26; refine (HSE.out _ (M3.out.held.step (Held.refl _).drew)).mono ?_; rintro e w8 ⟨rfl, h8⟩; have k8 : Held wr w8 := (Held.refl _).drew.step h8) | fail)
            have M8 := Lib.hid (M3.out.keep k8)
            clear h8 t0 t1 tf0 tf1 tlt q1
            have M20 := Lib.hid ((M8.out.put 2 rfl 0 (.slice Ab' nb cb')).put 2 rfl 1 (.slice (some ⟨g, 0, none⟩) nn cn'))
            obtain ⟨⟨r0, r1⟩, ⟨rf0, rf1⟩, rlt⟩ := M8.out.box2 0 rfl
            obtain ⟨⟨q0, q1⟩, ⟨qf0, qf1⟩, qlt⟩ := M8.out.box2 2 rfl
            go_wp2
            refine bodyPost_ret (Bx.res_ct Try.results18 rfl (TB.load (M20.out.blk 2 rfl) rfl rfl)) rfl ?_
            exact WrTo.yes (R := R) (N := T.nodes) HP.out (by rw [HW.out, ← HC.out.whole s, setDs_self HX.out]) M20.out.rest.rest.rest (HE.out)
          · have hnb := neq_t his
            clear his
            go_region_held3 (fun w' => w'.cell? ⟨w.heap.size, 0, none⟩ = some (.slice Ab nb cb) ∧ w'.cell? ⟨w.heap.size, 1, none⟩ = some (.slice An nn cn) ∧ w'.cell? ⟨g, p * 4 + 1, none⟩ = some (.int .i64 x.par) ∧ Held wr w')
              ((repeat' refine And.intro ?_ ?_) <;> first | exact t0 | exact t1 | exact q1 | exact (Held.refl _).drew | exact Held.cell (by assumption) t0 | exact Held.cell (by assumption) t1 | exact Held.cell (by assumption) q1 | exact (by assumption))
              (first | (go_at_call 26; refine (HSE.out _ (M3.out.held.step (Held.refl _).drew)).mono ?_; rintro e w8 ⟨rfl, h8⟩; have k8 : Held wr w8 := (Held.refl _).drew.step h8) | fail)
            have M8 := Lib.hid (M3.out.keep k8)
            clear h8 t0 t1 tf0 tf1 tlt q1
            have q3 := M8.out.cellAt 4 rfl nrC_len (by decide) hy (j := 3) (by decide)
            have s3 := q3.2 _ rfl
            have s3f := q3.1
            have hg8 : g < w8.heap.size := by have := lt_of_cell s3; exact this
            have HO := Lib.hid (M8.out.row (p + 5) (v := .slice y.A y.n y.cap) (L := x.ds) (f := dlC) (e := 38) (s := 2) (base := w.heap.size) (dRows_at hy HX.out))
            go_wp2_with fail
            have M10 := Lib.hid (M8.out.skip (.cells #[.int .i64 (k : Int), .string s] 38))
            refine (SlcDl.insert_any dlC_len dlC_one w.heap.size _ x.ds m ⟨(k : Int), s⟩ _ (M10.out.row (p + 5) (dRows_at hy HX.out)) (HC.out.k) (by have := HC.out.len; omega) (by have := M10.out.held.le; exact this) w8.heap.size (heap_alloc_new _ _) (fun e => by have := (World.ownsRow.lt HO.out _ e).2; omega)).mono ?_
            intro e w11 hgot
            have HD2 := Lib.hid (HC.out.put s)
            obtain ⟨D2, hD2⟩ : ∃ q, x.ds.take m ++ [(⟨(k : Int), s⟩ : Dl)] ++ x.ds.drop m = q := ⟨_, rfl⟩
            rw [hD2] at hgot HD2
            obtain ⟨A11, cap11, rfl, hc11, hM11⟩ := M10.out.gotten (p + 5) (dRows_at hy HX.out) hgot
            have M11 := Lib.hid hM11
            clear hM11 hgot s3 s3f q3
            have q3 := M11.out.cellAt 4 rfl nrC_len (by decide) hy (j := 3) (by decide)
            have s3 := q3.2 _ rfl
            have s3f := q3.1
            have M12 : Hid (Mem w (w11.setCell ⟨g, p * 4 + 3, none⟩ (.slice A11 D2.length cap11)) (.box w1.heap.size #[.slice Ab' nb cb', .slice (some ⟨g, 0, none⟩) nn cn'] 27 :: .box w.heap.size #[.slice Ab nb cb, .slice An nn cn] 27 :: .box (w.heap.size + 1) #[.slice none 0 0, .slice none 0 0] 27 :: tRows w Ab' nb cb' (some ⟨g, 0, none⟩) nn cn' T.base ((R).set p { (y : Nr) with A := A11, n := D2.length, cap := cap11 }) (setDs T.nodes p D2))) := show Mem _ _ _ by
              have := M11.out.putAt 4 rfl nrC_len hy (j := 3) (by decide) (.slice A11 D2.length cap11) { (y : Nr) with A := A11, n := D2.length, cap := cap11 } rfl
              unfold tRows
              rw [← dRows_put hy HX.out]; exact this
            clear hc11 hD2
            have M20 := Lib.hid ((M12.out.put 2 rfl 0 (.slice Ab' nb cb')).put 2 rfl 1 (.slice (some ⟨g, 0, none⟩) nn cn'))
            obtain ⟨⟨r0, r1⟩, ⟨rf0, rf1⟩, rlt⟩ := M12.out.box2 0 rfl
            obtain ⟨⟨q0, q1⟩, ⟨qf0, qf1⟩, qlt⟩ := M12.out.box2 2 rfl
            go_wp2
            refine bodyPost_ret (Bx.res_ct Try.results18 rfl (TB.load (M20.out.blk 2 rfl) rfl rfl)) rfl ?_
            exact WrTo.yes (R := ((R).set p { (y : Nr) with A := A11, n := D2.length, cap := cap11 })) (N := (setDs T.nodes p D2)) HP.out (by rw [HW.out, HD2.out]) M20.out.rest.rest.rest ((HE.out).ds hy HX.out A11 D2.length cap11 D2 rfl)
end Sn
end Go.Proofs.Ytncgihbnfmpdbaa
