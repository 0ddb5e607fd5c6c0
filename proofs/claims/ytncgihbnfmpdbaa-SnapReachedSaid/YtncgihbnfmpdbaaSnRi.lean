/-
  Contracts: WriteNode of the reference (chapter 41).
-/
import Derived.Test.YtncgihbnfmpdbaaSnRh
import Derived.Test.YtncgihbnfmpdbaaTail
import Derived.Deep.DeepCutAuto
set_option linter.unusedVariables false
set_option linter.unusedSimpArgs false
set_option maxRecDepth 100000
namespace Go.Proofs.Ytncgihbnfmpdbaa
open Go.RowKit Go.BigFrame
namespace Sn
/-- What WriteNode hands back. -/
def WrR (T : Tr) (n b : Int) (s : ByteArray) (w : World) (e : Ending) (w' : World) : Prop :=
  ∃ Ab nb cb An nn cn, e = .returned (.tuple #[.agg #[.slice Ab nb cb, .slice An nn cn], .int .i64 (writeE T n b)]) ∧ TrR w' Ab nb An nn (write T n b s) ∧ Held w w'
theorem WrR.no {T : Tr} {n b k : Int} {s : ByteArray} {w w' : World} {Ab : Option Addr} {nb cb : Nat} {An : Option Addr} {nn cn : Nat} (h : writeE T n b = k) (hk : k ≠ 0) (hT : TrR w Ab nb An nn T) (hw : Held w w') :
    WrR T n b s w (.returned (.tuple #[.agg #[.slice Ab nb cb, .slice An nn cn], .int .i64 k])) w' := by
  refine ⟨Ab, nb, cb, An, nn, cn, by rw [h], ?_, hw⟩
  unfold write; rw [h, if_neg hk]; exact hT.held hw
theorem WrR.yes {T : Tr} {n b : Int} {s : ByteArray} {w w' : World} {Ab : Option Addr} {nb cb : Nat} {An : Option Addr} {nn cn : Nat} {N : List Nd} (h : writeE T n b = 0) (hN : write T n b s = ⟨T.base, N⟩) (hT : TrR w' Ab nb An nn ⟨T.base, N⟩) (hw : Held w w') :
    WrR T n b s w (.returned (.tuple #[.agg #[.slice Ab nb cb, .slice An nn cn], .int .i64 0])) w' := by
  refine ⟨Ab, nb, cb, An, nn, cn, by rw [h], ?_, hw⟩
  rw [hN]; exact hT
theorem frozen_held {w a : World} {b j : Nat} (h : Held w a) (hb : b < w.heap.size) (hf : w.frozen? ⟨b, j, none⟩ = false) : a.frozen? ⟨b, j, none⟩ = false := by
  rw [← hf]; simp only [World.frozen?]; rw [h.block b hb]
theorem ne_swap (a b : ByteArray) : decide (¬ a = b) = decide (¬ b = a) := by
  by_cases h : a = b
  · simp [h]
  · have : ¬ b = a := fun q => h q.symm
    simp [h, this]
set_option maxHeartbeats 8000000 in
theorem rwrite_any (Ab : Option Addr) (nb cb : Nat) (An : Option Addr) (nn cn : Nat) (T : Tr) (n b : Int) (s : ByteArray) (w : World) (h : TrR w Ab nb An nn T) (hv : Ok T) (hs : s.size = 128) :
    Calls Try.prog 31 #[.agg #[.slice Ab nb cb, .slice An nn cn], .int .i64 n, .int .i64 b, .string s] w (WrR T n b s w) := by
  have HTR := Lib.hid h
  have HVA := Lib.hid (fun w' (q : Held w w') => rvalid_any Ab nb cb An nn cn T w' (h.held q) hv)
  have HEX := Lib.hid (fun w' (q : Held w w') => rexists_any Ab nb cb An nn cn T n w' (h.held q))
  have HCL := Lib.hid (fun w' (q : Held w w') => fresh_any Ab nb cb An nn cn T w' (h.held q) hv)
  have M0 := Lib.hid (((Mem.start w).alloc #[.slice Ab nb cb, .slice An nn cn] 27).alloc' (b := w.heap.size + 1) (by simp) #[.slice none 0 0, .slice none 0 0] 27)
  have hnn := h.nn
  have hbl := h.bs.1
  have HNN := Lib.hid hnn
  have hsz : ((s.size : Int) != 128) = false := by rw [hs]; rfl
  obtain ⟨hb, hhb⟩ : ∃ q, ex T.nodes n = q := ⟨_, rfl⟩
  rw [hhb] at HEX
  cases hb
  · have HP := Lib.hid (writeE_no (T := T) (n := n) (b := b) (fun q => by rw [hhb] at q; cases q.1))
    clear h hv hhb hnn hbl
    go_enter Try.func31, Try.ntmps31
    go_wp2_with (first | (go_at_call 34; refine (HVA.out _ M0.out.held).mono ?_; rintro e w2 ⟨rfl, h2⟩; have M2 := Lib.hid (M0.out.keep h2); obtain ⟨⟨a0, a1⟩, ⟨af0, af1⟩, alt⟩ := M2.out.box2 0 rfl) | (go_at_call 45; refine (HEX.out _ M2.out.held).mono ?_; rintro e w3 ⟨rfl, h3⟩; have M3 := Lib.hid (M2.out.keep h3); obtain ⟨⟨b0, b1⟩, ⟨bf0, bf1⟩, blt⟩ := M3.out.box2 0 rfl; obtain ⟨⟨e0, e1⟩, ⟨ef0, ef1⟩, elt⟩ := M3.out.box2 1 rfl))
    have M9 := Lib.hid ((M3.out.put 1 rfl 0 (.slice Ab nb cb)).put 1 rfl 1 (.slice An nn cn))
    refine bodyPost_ret (Bx.res_ct Try.results31 rfl (TB.load (M9.out.blk 1 rfl) rfl rfl)) rfl ?_
    exact WrR.no HP.out (by decide) HTR.out M9.out.held
  · by_cases h0 : b < 0
    · have HP := Lib.hid (writeE_no (T := T) (n := n) (b := b) (fun q => by omega))
      clear h hv hhb hnn hbl
      go_enter Try.func31, Try.ntmps31
      go_wp2_with (first | (go_at_call 34; refine (HVA.out _ M0.out.held).mono ?_; rintro e w2 ⟨rfl, h2⟩; have M2 := Lib.hid (M0.out.keep h2); obtain ⟨⟨a0, a1⟩, ⟨af0, af1⟩, alt⟩ := M2.out.box2 0 rfl) | (go_at_call 45; refine (HEX.out _ M2.out.held).mono ?_; rintro e w3 ⟨rfl, h3⟩; have M3 := Lib.hid (M2.out.keep h3); obtain ⟨⟨b0, b1⟩, ⟨bf0, bf1⟩, blt⟩ := M3.out.box2 0 rfl; obtain ⟨⟨e0, e1⟩, ⟨ef0, ef1⟩, elt⟩ := M3.out.box2 1 rfl))
      have M9 := Lib.hid ((M3.out.put 1 rfl 0 (.slice Ab nb cb)).put 1 rfl 1 (.slice An nn cn))
      refine bodyPost_ret (Bx.res_ct Try.results31 rfl (TB.load (M9.out.blk 1 rfl) rfl rfl)) rfl ?_
      exact WrR.no HP.out (by decide) HTR.out M9.out.held
    by_cases h9 : (nb : Int) ≤ b
    · have HP := Lib.hid (writeE_no (T := T) (n := n) (b := b) (fun q => by omega))
      clear h hv hhb hnn hbl
      go_enter Try.func31, Try.ntmps31
      go_wp2_with (first | (go_at_call 34; refine (HVA.out _ M0.out.held).mono ?_; rintro e w2 ⟨rfl, h2⟩; have M2 := Lib.hid (M0.out.keep h2); obtain ⟨⟨a0, a1⟩, ⟨af0, af1⟩, alt⟩ := M2.out.box2 0 rfl) | (go_at_call 45; refine (HEX.out _ M2.out.held).mono ?_; rintro e w3 ⟨rfl, h3⟩; have M3 := Lib.hid (M2.out.keep h3); obtain ⟨⟨b0, b1⟩, ⟨bf0, bf1⟩, blt⟩ := M3.out.box2 0 rfl; obtain ⟨⟨e0, e1⟩, ⟨ef0, ef1⟩, elt⟩ := M3.out.box2 1 rfl))
      have M9 := Lib.hid ((M3.out.put 1 rfl 0 (.slice Ab nb cb)).put 1 rfl 1 (.slice An nn cn))
      refine bodyPost_ret (Bx.res_ct Try.results31 rfl (TB.load (M9.out.blk 1 rfl) rfl rfl)) rfl ?_
      exact WrR.no HP.out (by decide) HTR.out M9.out.held
    obtain ⟨p, x, rfl, hx, hlx⟩ := ex_iff.1 hhb
    obtain ⟨k, rfl⟩ := Int.eq_ofNat_of_zero_le (by omega : 0 ≤ b)
    have hpn : (p : Int) < (nn : Int) := by have := (List.getElem?_eq_some_iff.1 hx).1; omega
    have hp0 : (0 : Int) ≤ p := by omega
    have HX := Lib.hid hx
    have HWE := Lib.hid (writeE_at (b := k) hx hlx (by omega) (by omega))
    have HXD := Lib.hid (hv.node p x hx).ds
    have hdl := ok_dl hv p x hx
    have hpar := ok_par_lt hv hx
    have HSE := Lib.hid (fun w' (q : Held w w') => rsees_any Ab nb cb An nn cn T x.par k w' (h.held q) hv (by omega) (by omega) (by omega))
    obtain ⟨tb, toff, x', A', dn', dcap', hAn, tlb, hx', x0, x1, x2, x3, _⟩ := h.at_ (Held.refl w) (k := p) (by omega)
    obtain rfl : x = x' := by rw [hx] at hx'; injection hx'
    subst hAn
    have HT2 := Lib.hid x2
    have HT1 := Lib.hid x1
    have hk9 : (k : Int) < nb := by omega
    clear h9 x0 x1 x3 hx'
    obtain ⟨xo, hxo⟩ : ∃ q, x.op = q := ⟨_, rfl⟩
    rw [hxo] at HWE HT2
    clear x2
    cases xo
    · have HP : Hid (writeE T p k = 4103) := HWE
      clear h hv hhb hnn hbl hxo hx
      go_enter Try.func31, Try.ntmps31
      go_wp2_with (first | (go_at_call 34; refine (HVA.out _ M0.out.held).mono ?_; rintro e w2 ⟨rfl, h2⟩; have M2 := Lib.hid (M0.out.keep h2); obtain ⟨⟨a0, a1⟩, ⟨af0, af1⟩, alt⟩ := M2.out.box2 0 rfl) | (go_at_call 45; refine (HEX.out _ M2.out.held).mono ?_; rintro e w3 ⟨rfl, h3⟩; have M3 := Lib.hid (M2.out.keep h3); obtain ⟨⟨b0, b1⟩, ⟨bf0, bf1⟩, blt⟩ := M3.out.box2 0 rfl; obtain ⟨⟨e0, e1⟩, ⟨ef0, ef1⟩, elt⟩ := M3.out.box2 1 rfl; have t2 := M3.out.held.cell HT2.out; have tl2 := Nat.lt_of_lt_of_le tlb M3.out.held.le))
      have M9 := Lib.hid ((M3.out.put 1 rfl 0 (.slice Ab nb cb)).put 1 rfl 1 (.slice (some ⟨tb, toff, none⟩) nn cn))
      refine bodyPost_ret (Bx.res_ct Try.results31 rfl (TB.load (M9.out.blk 1 rfl) rfl rfl)) rfl ?_
      exact WrR.no HP.out (by decide) HTR.out M9.out.held
    · have HP : Hid (writeE T p k = 0) := HWE
      have hw := write_at (s := s) hx HP.out
      obtain ⟨sv, hsv⟩ : ∃ q, sees T x.par k = q := ⟨_, rfl⟩
      rw [hsv] at HSE hw
      obtain ⟨is, his⟩ : ∃ q, decide (¬ s = sv) = q := ⟨_, rfl⟩
      rw [his] at hw
      have HW := Lib.hid hw
      rw [ne_swap] at his
      clear h hv hhb hnn hbl hxo hx hsv hw
      go_enter Try.func31, Try.ntmps31
      go_wp2_with (first | (go_at_call 34; refine (HVA.out _ M0.out.held).mono ?_; rintro e w2 ⟨rfl, h2⟩; have M2 := Lib.hid (M0.out.keep h2); obtain ⟨⟨a0, a1⟩, ⟨af0, af1⟩, alt⟩ := M2.out.box2 0 rfl) | (go_at_call 45; refine (HEX.out _ M2.out.held).mono ?_; rintro e w3 ⟨rfl, h3⟩; have M3 := Lib.hid (M2.out.keep h3); obtain ⟨⟨b0, b1⟩, ⟨bf0, bf1⟩, blt⟩ := M3.out.box2 0 rfl; obtain ⟨⟨e0, e1⟩, ⟨ef0, ef1⟩, elt⟩ := M3.out.box2 1 rfl; have t2 := M3.out.held.cell HT2.out; have tl2 := Nat.lt_of_lt_of_le tlb M3.out.held.le) | (go_at_call 46; refine (HCL.out _ M3.out.held).mono ?_; rintro e w5 ⟨An', cn', R, rfl, hT1⟩; have HE := Lib.hid hT1.eq; have M5 := Lib.hid ((TrM.join M3.out hT1).allocF rfl #[.slice Ab nb cb, .slice An' nn cn'] 27); have HRL : Hid (R.length = nn) := (show _ = _ by { rw [hT1.eq.1]; exact HNN.out }); clear hT1))
      obtain ⟨g, y, rfl, hge, hlt, hy, hcell⟩ := M5.out.slot 4 rfl nrC_len (by decide) (k := p) (by rw [HRL.out]; omega)
      have hq := HE.out.2 p y x hy HX.out
      have M5 : Hid (Mem w (w5.alloc (.cells #[.slice Ab nb cb, .slice (some ⟨g, 0, none⟩) nn cn'] 27)) (.box w5.heap.size #[.slice Ab nb cb, .slice (some ⟨g, 0, none⟩) nn cn'] 27 :: .box w.heap.size #[.slice Ab nb cb, .slice (some ⟨tb, toff, none⟩) nn cn] 27 :: .box (w.heap.size + 1) #[.slice none 0 0, .slice none 0 0] 27 :: tRows w none 0 0 (some ⟨g, 0, none⟩) nn cn' [] R T.nodes)) := M5
      obtain ⟨w6, hw6⟩ : ∃ q, q = w5.alloc (.cells #[.slice Ab nb cb, .slice (some ⟨g, 0, none⟩) nn cn'] 27) := ⟨_, rfl⟩
      have z3 := (hcell 3 (by decide)).2 (.slice y.A y.n y.cap) rfl
      have z3f := (hcell 3 (by decide)).1
      rw [← hw6] at M5 z3 z3f hlt ⊢
      have t1 := M5.out.held.cell HT1.out
      have tl1 := Nat.lt_of_lt_of_le tlb M5.out.held.le
      clear hw6 hcell
      obtain ⟨⟨f0, f1⟩, ⟨ff0, ff1⟩, flt⟩ := M5.out.box2 0 rfl
      obtain ⟨⟨c0, c1⟩, ⟨cf0, cf1⟩, clt⟩ := M5.out.box2 1 rfl
      have HQN := Lib.hid hq
      have hyn : y.n ≤ 64 := by rw [hq.n]; omega
      clear hq
      cases is
      · have hnb : (sv.toList == s.toList) = true := neq_f his
        clear his
        have HPU := Lib.hid (fun w' (q : Held w6 w') => rput_any y.A y.n y.cap x.ds k s false w' (Own.reads dlC_len ((M5.out.keep q).row (p + 5) (v := .slice y.A y.n y.cap) (L := x.ds) (f := dlC) (e := 38) (s := 2) (base := w.heap.size) (dRows_at hy HX.out))).1 (by omega))
        have HPD := Lib.hid (putR_eq HXD.out.sorted (k : Int) s false)
        obtain ⟨PD, hPD⟩ : ∃ q, putR x.ds k s false = q := ⟨_, rfl⟩
        rw [hPD] at HPU HPD
        obtain ⟨ln, hln⟩ : ∃ q, PD.length = q := ⟨_, rfl⟩
        have HLN := Lib.hid hln
        clear hPD hln
        go_cut [] from 47 to 71 (fun wx => ∃ A9 c9, Mem w wx (.box w5.heap.size #[.slice Ab nb cb, .slice (some ⟨g, 0, none⟩) nn cn'] 27 :: .box w.heap.size #[.slice Ab nb cb, .slice (some ⟨tb, toff, none⟩) nn cn] 27 :: .box (w.heap.size + 1) #[.slice none 0 0, .slice none 0 0] 27 :: tRows w none 0 0 (some ⟨g, 0, none⟩) nn cn' [] (R.set p { y with A := A9, n := ln, cap := c9 }) (setDs T.nodes p PD)))
        case first =>
          have HSF : ∀ w', Held w6 w' → w'.cell? ⟨w5.heap.size, 1, none⟩ = some (.slice (some ⟨g, 0, none⟩) nn cn') ∧ w'.cell? ⟨w.heap.size, 0, none⟩ = some (.slice Ab nb cb) ∧ w'.cell? ⟨w.heap.size, 1, none⟩ = some (.slice (some ⟨tb, toff, none⟩) nn cn) ∧ w'.cell? ⟨g, p * 4 + 3, none⟩ = some (.slice y.A y.n y.cap) ∧ w'.cell? ⟨tb, toff + p * 4 + 1, none⟩ = some (.int .i64 x.par) := fun w' q => ⟨q.cell f1, q.cell c0, q.cell c1, q.cell z3, q.cell t1⟩
          have hS : Held w6 w6.drew := (Held.refl w6).drew
          clear f0 f1 ff0 ff1 flt c0 c1 cf0 cf1 clt t1
          refine AnyT.startL (S := (Held w6)) 25 (l := #[false, false, false, false, false, false, false, false, false, false, false, false, false, false, false, false, false, false, false, false, false, false, false, false, false, false]) (f := 26) (by kernel_rfl) (by kernel_rfl) (by kernel_rfl) ?_
          refine AnyT.takeL (l := #[false, false, false, false, false, false, false, false, false, false, false, false, false, false, false, false, false, false, false, false, false, false, false, false, false, false]) (l' := #[true, false, false, false, false, false, false, false, false, false, false, false, false, false, false, false, false, false, false, false, false, false, false, false, false, false]) (i := 0) (d := some 47) (v := ?_) (by kernel_rfl) rfl (by kernel_rfl) (by kernel_rfl) (by kernel_rfl) (fun _ _ _ h => h) (Or.inl ⟨by rfl, ?_⟩) hS ?_
          rotate_left
          · (intro w0 hw0; obtain ⟨k1, k2, k3, k4, k5⟩ := HSF w0 hw0; go_simp; try with_reducible rfl)
          try simp only [Act.put, List.setIfInBounds_toArray, List.set_cons_zero, List.set_cons_succ]
          refine AnyT.takeL (l := #[true, false, false, false, false, false, false, false, false, false, false, false, false, false, false, false, false, false, false, false, false, false, false, false, false, false]) (l' := #[true, true, false, false, false, false, false, false, false, false, false, false, false, false, false, false, false, false, false, false, false, false, false, false, false, false]) (i := 1) (d := some 48) (v := ?_) (by kernel_rfl) rfl (by kernel_rfl) (by kernel_rfl) (by kernel_rfl) (fun _ _ _ h => h) (Or.inl ⟨by rfl, ?_⟩) hS ?_
          rotate_left
          · (intro w0 hw0; obtain ⟨k1, k2, k3, k4, k5⟩ := HSF w0 hw0; go_simp; try with_reducible rfl)
          try simp only [Act.put, List.setIfInBounds_toArray, List.set_cons_zero, List.set_cons_succ]
          refine AnyT.takeL (l := #[true, true, false, false, false, false, false, false, false, false, false, false, false, false, false, false, false, false, false, false, false, false, false, false, false, false]) (l' := #[true, true, true, false, false, false, false, false, false, false, false, false, false, false, false, false, false, false, false, false, false, false, false, false, false, false]) (i := 2) (d := some 49) (v := ?_) (by kernel_rfl) rfl (by kernel_rfl) (by kernel_rfl) (by kernel_rfl) (fun _ _ _ h => h) (Or.inl ⟨by rfl, ?_⟩) hS ?_
          rotate_left
          · (intro w0 hw0; obtain ⟨k1, k2, k3, k4, k5⟩ := HSF w0 hw0; go_simp; try with_reducible rfl)
          try simp only [Act.put, List.setIfInBounds_toArray, List.set_cons_zero, List.set_cons_succ]
          refine AnyT.takeL (l := #[true, true, true, false, false, false, false, false, false, false, false, false, false, false, false, false, false, false, false, false, false, false, false, false, false, false]) (l' := #[true, true, true, true, false, false, false, false, false, false, false, false, false, false, false, false, false, false, false, false, false, false, false, false, false, false]) (i := 3) (d := some 50) (v := ?_) (by kernel_rfl) rfl (by kernel_rfl) (by kernel_rfl) (by kernel_rfl) (fun _ _ _ h => h) (Or.inl ⟨by rfl, ?_⟩) hS ?_
          rotate_left
          · (intro w0 hw0; obtain ⟨k1, k2, k3, k4, k5⟩ := HSF w0 hw0; go_simp; try with_reducible rfl)
          try simp only [Act.put, List.setIfInBounds_toArray, List.set_cons_zero, List.set_cons_succ]
          refine AnyT.takeL (l := #[true, true, true, true, false, false, false, false, false, false, false, false, false, false, false, false, false, false, false, false, false, false, false, false, false, false]) (l' := #[true, true, true, true, true, false, false, false, false, false, false, false, false, false, false, false, false, false, false, false, false, false, false, false, false, false]) (i := 4) (d := some 51) (v := ?_) (by kernel_rfl) rfl (by kernel_rfl) (by kernel_rfl) (by kernel_rfl) (fun _ _ _ h => h) (Or.inl ⟨by rfl, ?_⟩) hS ?_
          rotate_left
          · (intro w0 hw0; obtain ⟨k1, k2, k3, k4, k5⟩ := HSF w0 hw0; go_simp; try with_reducible rfl)
          try simp only [Act.put, List.setIfInBounds_toArray, List.set_cons_zero, List.set_cons_succ]
          refine AnyT.takeL (l := #[true, true, true, true, true, false, false, false, false, false, false, false, false, false, false, false, false, false, false, false, false, false, false, false, false, false]) (l' := #[true, true, true, true, true, true, false, false, false, false, false, false, false, false, false, false, false, false, false, false, false, false, false, false, false, false]) (i := 5) (d := some 52) (v := ?_) (by kernel_rfl) rfl (by kernel_rfl) (by kernel_rfl) (by kernel_rfl) (fun _ _ _ h => h) (Or.inl ⟨by rfl, ?_⟩) hS ?_
          rotate_left
          · (intro w0 hw0; obtain ⟨k1, k2, k3, k4, k5⟩ := HSF w0 hw0; go_simp; try with_reducible rfl)
          try simp only [Act.put, List.setIfInBounds_toArray, List.set_cons_zero, List.set_cons_succ]
          refine AnyT.takeL (l := #[true, true, true, true, true, true, false, false, false, false, false, false, false, false, false, false, false, false, false, false, false, false, false, false, false, false]) (l' := #[true, true, true, true, true, true, true, false, false, false, false, false, false, false, false, false, false, false, false, false, false, false, false, false, false, false]) (i := 6) (d := some 53) (v := ?_) (by kernel_rfl) rfl (by kernel_rfl) (by kernel_rfl) (by kernel_rfl) (fun _ _ _ h => h) (Or.inl ⟨by rfl, ?_⟩) hS ?_
          rotate_left
          · (intro w0 hw0; obtain ⟨k1, k2, k3, k4, k5⟩ := HSF w0 hw0; go_simp; try with_reducible rfl)
          try simp only [Act.put, List.setIfInBounds_toArray, List.set_cons_zero, List.set_cons_succ]
          refine AnyT.takeL (l := #[true, true, true, true, true, true, true, false, false, false, false, false, false, false, false, false, false, false, false, false, false, false, false, false, false, false]) (l' := #[true, true, true, true, true, true, true, true, false, false, false, false, false, false, false, false, false, false, false, false, false, false, false, false, false, false]) (i := 7) (d := some 54) (v := ?_) (by kernel_rfl) rfl (by kernel_rfl) (by kernel_rfl) (by kernel_rfl) (fun _ _ _ h => h) (Or.inl ⟨by rfl, ?_⟩) hS ?_
          rotate_left
          · (intro w0 hw0; obtain ⟨k1, k2, k3, k4, k5⟩ := HSF w0 hw0; go_simp; try with_reducible rfl)
          try simp only [Act.put, List.setIfInBounds_toArray, List.set_cons_zero, List.set_cons_succ]
          refine AnyT.takeL (l := #[true, true, true, true, true, true, true, true, false, false, false, false, false, false, false, false, false, false, false, false, false, false, false, false, false, false]) (l' := #[true, true, true, true, true, true, true, true, true, false, false, false, false, false, false, false, false, false, false, false, false, false, false, false, false, false]) (i := 8) (d := some 55) (v := ?_) (by kernel_rfl) rfl (by kernel_rfl) (by kernel_rfl) (by kernel_rfl) (fun _ _ _ h => h) (Or.inl ⟨by rfl, ?_⟩) hS ?_
          rotate_left
          · (intro w0 hw0; obtain ⟨k1, k2, k3, k4, k5⟩ := HSF w0 hw0; go_simp; try with_reducible rfl)
          try simp only [Act.put, List.setIfInBounds_toArray, List.set_cons_zero, List.set_cons_succ]
          refine AnyT.takeL (l := #[true, true, true, true, true, true, true, true, true, false, false, false, false, false, false, false, false, false, false, false, false, false, false, false, false, false]) (l' := #[true, true, true, true, true, true, true, true, true, true, false, false, false, false, false, false, false, false, false, false, false, false, false, false, false, false]) (i := 9) (d := some 56) (v := ?_) (by kernel_rfl) rfl (by kernel_rfl) (by kernel_rfl) (by kernel_rfl) (fun _ _ _ h => h) (Or.inl ⟨by rfl, ?_⟩) hS ?_
          rotate_left
          · (intro w0 hw0; obtain ⟨k1, k2, k3, k4, k5⟩ := HSF w0 hw0; go_simp; try with_reducible rfl)
          try simp only [Act.put, List.setIfInBounds_toArray, List.set_cons_zero, List.set_cons_succ]
          refine AnyT.takeL (l := #[true, true, true, true, true, true, true, true, true, true, false, false, false, false, false, false, false, false, false, false, false, false, false, false, false, false]) (l' := #[true, true, true, true, true, true, true, true, true, true, true, false, false, false, false, false, false, false, false, false, false, false, false, false, false, false]) (i := 10) (d := some 57) (v := ?_) (by kernel_rfl) rfl (by kernel_rfl) (by kernel_rfl) (by kernel_rfl) (fun _ _ _ h => h) (Or.inl ⟨by rfl, ?_⟩) hS ?_
          rotate_left
          · (intro w0 hw0; obtain ⟨k1, k2, k3, k4, k5⟩ := HSF w0 hw0; go_simp; try with_reducible rfl)
          try simp only [Act.put, List.setIfInBounds_toArray, List.set_cons_zero, List.set_cons_succ]
          refine AnyT.takeL (l := #[true, true, true, true, true, true, true, true, true, true, true, false, false, false, false, false, false, false, false, false, false, false, false, false, false, false]) (l' := #[true, true, true, true, true, true, true, true, true, true, true, true, false, false, false, false, false, false, false, false, false, false, false, false, false, false]) (i := 11) (d := some 58) (v := ?_) (by kernel_rfl) rfl (by kernel_rfl) (by kernel_rfl) (by kernel_rfl) (fun _ _ _ h => h) (Or.inl ⟨by rfl, ?_⟩) hS ?_
          rotate_left
          · (intro w0 hw0; obtain ⟨k1, k2, k3, k4, k5⟩ := HSF w0 hw0; go_simp; try with_reducible rfl)
          try simp only [Act.put, List.setIfInBounds_toArray, List.set_cons_zero, List.set_cons_succ]
          refine AnyT.takeL (l := #[true, true, true, true, true, true, true, true, true, true, true, true, false, false, false, false, false, false, false, false, false, false, false, false, false, false]) (l' := #[true, true, true, true, true, true, true, true, true, true, true, true, true, false, false, false, false, false, false, false, false, false, false, false, false, false]) (i := 12) (d := some 59) (v := ?_) (by kernel_rfl) rfl (by kernel_rfl) (by kernel_rfl) (by kernel_rfl) (fun _ _ _ h => h) (Or.inl ⟨by rfl, ?_⟩) hS ?_
          rotate_left
          · (intro w0 hw0; obtain ⟨k1, k2, k3, k4, k5⟩ := HSF w0 hw0; go_simp; try with_reducible rfl)
          try simp only [Act.put, List.setIfInBounds_toArray, List.set_cons_zero, List.set_cons_succ]
          refine AnyT.takeL (l := #[true, true, true, true, true, true, true, true, true, true, true, true, true, false, false, false, false, false, false, false, false, false, false, false, false, false]) (l' := #[true, true, true, true, true, true, true, true, true, true, true, true, true, true, false, false, false, false, false, false, false, false, false, false, false, false]) (i := 13) (d := some 60) (v := ?_) (by kernel_rfl) rfl (by kernel_rfl) (by kernel_rfl) (by kernel_rfl) (fun _ _ _ h => h) (Or.inl ⟨by rfl, ?_⟩) hS ?_
          rotate_left
          · (intro w0 hw0; obtain ⟨k1, k2, k3, k4, k5⟩ := HSF w0 hw0; go_simp; try with_reducible rfl)
          try simp only [Act.put, List.setIfInBounds_toArray, List.set_cons_zero, List.set_cons_succ]
          refine AnyT.takeL (l := #[true, true, true, true, true, true, true, true, true, true, true, true, true, true, false, false, false, false, false, false, false, false, false, false, false, false]) (l' := #[true, true, true, true, true, true, true, true, true, true, true, true, true, true, true, false, false, false, false, false, false, false, false, false, false, false]) (i := 14) (d := some 61) (v := ?_) (by kernel_rfl) rfl (by kernel_rfl) (by kernel_rfl) (by kernel_rfl) (fun _ _ _ h => h) (Or.inl ⟨by rfl, ?_⟩) hS ?_
          rotate_left
          · (intro w0 hw0; obtain ⟨k1, k2, k3, k4, k5⟩ := HSF w0 hw0; go_simp; try with_reducible rfl)
          try simp only [Act.put, List.setIfInBounds_toArray, List.set_cons_zero, List.set_cons_succ]
          refine AnyT.takeL (l := #[true, true, true, true, true, true, true, true, true, true, true, true, true, true, true, false, false, false, false, false, false, false, false, false, false, false]) (l' := #[true, true, true, true, true, true, true, true, true, true, true, true, true, true, true, true, false, false, false, false, false, false, false, false, false, false]) (i := 15) (d := some 62) (v := ?_) (by kernel_rfl) rfl (by kernel_rfl) (by kernel_rfl) (by kernel_rfl) (fun _ _ _ h => h) (Or.inl ⟨by rfl, ?_⟩) hS ?_
          rotate_left
          · (intro w0 hw0; obtain ⟨k1, k2, k3, k4, k5⟩ := HSF w0 hw0; go_simp; try with_reducible rfl)
          try simp only [Act.put, List.setIfInBounds_toArray, List.set_cons_zero, List.set_cons_succ]
          refine AnyT.takeL (l := #[true, true, true, true, true, true, true, true, true, true, true, true, true, true, true, true, false, false, false, false, false, false, false, false, false, false]) (l' := #[true, true, true, true, true, true, true, true, true, true, true, true, true, true, true, true, true, false, false, false, false, false, false, false, false, false]) (i := 16) (d := some 63) (v := ?_) (by kernel_rfl) rfl (by kernel_rfl) (by kernel_rfl) (by kernel_rfl) (fun _ _ _ h => h) (Or.inl ⟨by rfl, ?_⟩) hS ?_
          rotate_left
          · (intro w0 hw0; obtain ⟨k1, k2, k3, k4, k5⟩ := HSF w0 hw0; go_simp; try with_reducible rfl)
          try simp only [Act.put, List.setIfInBounds_toArray, List.set_cons_zero, List.set_cons_succ]
          refine AnyT.takeL (l := #[true, true, true, true, true, true, true, true, true, true, true, true, true, true, true, true, true, false, false, false, false, false, false, false, false, false]) (l' := #[true, true, true, true, true, true, true, true, true, true, true, true, true, true, true, true, true, true, false, false, false, false, false, false, false, false]) (i := 17) (d := some 64) (v := ?_) (by kernel_rfl) rfl (by kernel_rfl) (by kernel_rfl) (by kernel_rfl) (fun _ _ _ h => h) (Or.inl ⟨by rfl, ?_⟩) hS ?_
          rotate_left
          · (intro w0 hw0; obtain ⟨k1, k2, k3, k4, k5⟩ := HSF w0 hw0; go_simp; try with_reducible rfl)
          try simp only [Act.put, List.setIfInBounds_toArray, List.set_cons_zero, List.set_cons_succ]
          refine AnyT.takeL (l := #[true, true, true, true, true, true, true, true, true, true, true, true, true, true, true, true, true, true, false, false, false, false, false, false, false, false]) (l' := #[true, true, true, true, true, true, true, true, true, true, true, true, true, true, true, true, true, true, true, false, false, false, false, false, false, false]) (i := 18) (d := some 65) (v := ?_) (by kernel_rfl) rfl (by kernel_rfl) (by kernel_rfl) (by kernel_rfl) (fun _ _ _ h => h) (Or.inl ⟨by rfl, ?_⟩) hS ?_
          rotate_left
          · (intro w0 hw0; obtain ⟨k1, k2, k3, k4, k5⟩ := HSF w0 hw0; go_simp; try with_reducible rfl)
          try simp only [Act.put, List.setIfInBounds_toArray, List.set_cons_zero, List.set_cons_succ]
          refine AnyT.takeL (l := #[true, true, true, true, true, true, true, true, true, true, true, true, true, true, true, true, true, true, true, false, false, false, false, false, false, false]) (l' := #[true, true, true, true, true, true, true, true, true, true, true, true, true, true, true, true, true, true, true, false, true, false, false, false, false, false]) (i := 20) (d := some 67) (v := ?_) (by kernel_rfl) rfl (by kernel_rfl) (by kernel_rfl) (by kernel_rfl) (fun _ _ _ h => h) (Or.inl ⟨by rfl, ?_⟩) hS ?_
          rotate_left
          · (intro w0 hw0; obtain ⟨k1, k2, k3, k4, k5⟩ := HSF w0 hw0; go_simp; try with_reducible rfl)
          try simp only [Act.put, List.setIfInBounds_toArray, List.set_cons_zero, List.set_cons_succ]
          refine AnyT.onlyL (l := #[true, true, true, true, true, true, true, true, true, true, true, true, true, true, true, true, true, true, true, false, true, false, false, false, false, false]) (l' := #[true, true, true, true, true, true, true, true, true, true, true, true, true, true, true, true, true, true, true, true, true, false, false, false, false, false]) (i := 19) (by kernel_rfl) rfl (by kernel_rfl) (fun K hK => ?_)
          go_simp
          refine (HSE.out _ (M5.out.held.step hS)).mono ?_
          rintro e w7 ⟨rfl, h7⟩
          have hS7 : Held w6 w7 := hS.step h7
          refine hK.out _ _ (.inr hS7) ?_
          try simp only [Act.put, List.setIfInBounds_toArray, List.set_cons_zero, List.set_cons_succ]
          clear h7
          refine AnyT.takeL (l := #[true, true, true, true, true, true, true, true, true, true, true, true, true, true, true, true, true, true, true, true, true, false, false, false, false, false]) (l' := #[true, true, true, true, true, true, true, true, true, true, true, true, true, true, true, true, true, true, true, true, true, true, false, false, false, false]) (i := 21) (d := some 68) (v := ?_) (by kernel_rfl) rfl (by kernel_rfl) (by kernel_rfl) (by kernel_rfl) (fun _ _ _ h => h) (Or.inl ⟨by rfl, ?_⟩) hS7 ?_
          rotate_left
          · (intro w0 hw0; obtain ⟨k1, k2, k3, k4, k5⟩ := HSF w0 hw0; go_simp; try with_reducible rfl)
          try simp only [Act.put, List.setIfInBounds_toArray, List.set_cons_zero, List.set_cons_succ]
          refine AnyT.onlyL (l := #[true, true, true, true, true, true, true, true, true, true, true, true, true, true, true, true, true, true, true, true, true, true, false, false, false, false]) (l' := #[true, true, true, true, true, true, true, true, true, true, true, true, true, true, true, true, true, true, true, true, true, true, true, false, false, false]) (i := 22) (by kernel_rfl) rfl (by kernel_rfl) (fun K hK => ?_)
          go_simp
          refine (HPU.out _ hS7).mono ?_
          rintro e w9 ⟨A9, cap9, rfl, hc9, ho9, h9⟩
          have hS9 : Held w6 w9 := hS7.step h9
          have M9 := Lib.hid ((M5.out.keep hS7).ownF h9 ho9)
          rw [HLN.out] at M9 ⊢
          refine hK.out _ _ (.inr hS9) ?_
          try simp only [Act.put, List.setIfInBounds_toArray, List.set_cons_zero, List.set_cons_succ]
          clear ho9 h9
          refine AnyT.takeL (l := #[true, true, true, true, true, true, true, true, true, true, true, true, true, true, true, true, true, true, true, true, true, true, true, false, false, false]) (l' := #[true, true, true, true, true, true, true, true, true, true, true, true, true, true, true, true, true, true, true, true, true, true, true, true, false, false]) (i := 23) (d := some 70) (v := ?_) (by kernel_rfl) rfl (by kernel_rfl) (by kernel_rfl) (by kernel_rfl) (fun _ _ _ h => h) (Or.inl ⟨by rfl, ?_⟩) hS9 ?_
          rotate_left
          · (intro w0 hw0; obtain ⟨k1, k2, k3, k4, k5⟩ := HSF w0 hw0; go_simp; try with_reducible rfl)
          try simp only [Act.put, List.setIfInBounds_toArray, List.set_cons_zero, List.set_cons_succ]
          refine AnyT.takeL (l := #[true, true, true, true, true, true, true, true, true, true, true, true, true, true, true, true, true, true, true, true, true, true, true, true, false, false]) (l' := #[true, true, true, true, true, true, true, true, true, true, true, true, true, true, true, true, true, true, true, true, true, true, true, true, true, false]) (i := 24) (d := some 71) (v := ?_) (by kernel_rfl) rfl (by kernel_rfl) (by kernel_rfl) (by kernel_rfl) (fun _ _ _ h => h) (Or.inl ⟨by rfl, ?_⟩) hS9 ?_
          rotate_left
          · (intro w0 hw0; obtain ⟨k1, k2, k3, k4, k5⟩ := HSF w0 hw0; go_simp; try with_reducible rfl)
          try simp only [Act.put, List.setIfInBounds_toArray, List.set_cons_zero, List.set_cons_succ]
          refine AnyT.onlyL (l := #[true, true, true, true, true, true, true, true, true, true, true, true, true, true, true, true, true, true, true, true, true, true, true, true, true, false]) (l' := #[true, true, true, true, true, true, true, true, true, true, true, true, true, true, true, true, true, true, true, true, true, true, true, true, true, true]) (i := 25) (by kernel_rfl) rfl (by kernel_rfl) (fun K hK => ?_)
          have z9 := hS9.cell z3
          have z9f : w9.frozen? ⟨g, p * 4 + 3, none⟩ = false := frozen_held hS9 hlt z3f
          clear HSF
          go_simp
          refine hK.out _ _ (.inl rfl) ?_
          refine AnyT.done (by kernel_rfl) ?_ _
          have M10 := Lib.hid (mem_deltas M9.out hy HX.out)
          go_wp2
          go_meet
          case rel => exact ⟨A9, cap9, M10.out⟩
        case rest =>
          obtain ⟨A9, c9, hM⟩ := hcut
          have M11 := Lib.hid hM
          clear hM z3 z3f t1 f0 f1 ff0 ff1 flt c0 c1 cf0 cf1 clt
          obtain ⟨⟨r0, r1⟩, ⟨rf0, rf1⟩, rlt⟩ := M11.out.box2 0 rfl
          obtain ⟨⟨q0, q1⟩, ⟨qf0, qf1⟩, qlt⟩ := M11.out.box2 2 rfl
          have M20 := Lib.hid ((M11.out.put 2 rfl 0 (.slice Ab nb cb)).put 2 rfl 1 (.slice (some ⟨g, 0, none⟩) nn cn'))
          go_wp2
          refine bodyPost_ret (Bx.res_ct Try.results31 rfl (TB.load (M20.out.blk 2 rfl) rfl rfl)) rfl ?_
          exact WrR.yes (N := setDs T.nodes p PD) HP.out (by rw [HW.out, ← HPD.out]) (mixTr (cn := cn') (R := R.set p { y with A := A9, n := ln, cap := c9 }) HTR.out.bs HTR.out.bnil ⟨M20.out.rest.rest.rest, HE.out.ds hy HX.out A9 ln c9 PD HLN.out.symm⟩) M20.out.held
      · have hnb : (sv.toList == s.toList) = false := neq_t his
        clear his
        have HPU := Lib.hid (fun w' (q : Held w6 w') => rput_any y.A y.n y.cap x.ds k s true w' (Own.reads dlC_len ((M5.out.keep q).row (p + 5) (v := .slice y.A y.n y.cap) (L := x.ds) (f := dlC) (e := 38) (s := 2) (base := w.heap.size) (dRows_at hy HX.out))).1 (by omega))
        have HPD := Lib.hid (putR_eq HXD.out.sorted (k : Int) s true)
        obtain ⟨PD, hPD⟩ : ∃ q, putR x.ds k s true = q := ⟨_, rfl⟩
        rw [hPD] at HPU HPD
        obtain ⟨ln, hln⟩ : ∃ q, PD.length = q := ⟨_, rfl⟩
        have HLN := Lib.hid hln
        clear hPD hln
        go_cut [] from 47 to 71 (fun wx => ∃ A9 c9, Mem w wx (.box w5.heap.size #[.slice Ab nb cb, .slice (some ⟨g, 0, none⟩) nn cn'] 27 :: .box w.heap.size #[.slice Ab nb cb, .slice (some ⟨tb, toff, none⟩) nn cn] 27 :: .box (w.heap.size + 1) #[.slice none 0 0, .slice none 0 0] 27 :: tRows w none 0 0 (some ⟨g, 0, none⟩) nn cn' [] (R.set p { y with A := A9, n := ln, cap := c9 }) (setDs T.nodes p PD)))
        case first =>
          have HSF : ∀ w', Held w6 w' → w'.cell? ⟨w5.heap.size, 1, none⟩ = some (.slice (some ⟨g, 0, none⟩) nn cn') ∧ w'.cell? ⟨w.heap.size, 0, none⟩ = some (.slice Ab nb cb) ∧ w'.cell? ⟨w.heap.size, 1, none⟩ = some (.slice (some ⟨tb, toff, none⟩) nn cn) ∧ w'.cell? ⟨g, p * 4 + 3, none⟩ = some (.slice y.A y.n y.cap) ∧ w'.cell? ⟨tb, toff + p * 4 + 1, none⟩ = some (.int .i64 x.par) := fun w' q => ⟨q.cell f1, q.cell c0, q.cell c1, q.cell z3, q.cell t1⟩
          have hS : Held w6 w6.drew := (Held.refl w6).drew
          clear f0 f1 ff0 ff1 flt c0 c1 cf0 cf1 clt t1
          refine AnyT.startL (S := (Held w6)) 25 (l := #[false, false, false, false, false, false, false, false, false, false, false, false, false, false, false, false, false, false, false, false, false, false, false, false, false, false]) (f := 26) (by kernel_rfl) (by kernel_rfl) (by kernel_rfl) ?_
          refine AnyT.takeL (l := #[false, false, false, false, false, false, false, false, false, false, false, false, false, false, false, false, false, false, false, false, false, false, false, false, false, false]) (l' := #[true, false, false, false, false, false, false, false, false, false, false, false, false, false, false, false, false, false, false, false, false, false, false, false, false, false]) (i := 0) (d := some 47) (v := ?_) (by kernel_rfl) rfl (by kernel_rfl) (by kernel_rfl) (by kernel_rfl) (fun _ _ _ h => h) (Or.inl ⟨by rfl, ?_⟩) hS ?_
          rotate_left
          · (intro w0 hw0; obtain ⟨k1, k2, k3, k4, k5⟩ := HSF w0 hw0; go_simp; try with_reducible rfl)
          try simp only [Act.put, List.setIfInBounds_toArray, List.set_cons_zero, List.set_cons_succ]
          refine AnyT.takeL (l := #[true, false, false, false, false, false, false, false, false, false, false, false, false, false, false, false, false, false, false, false, false, false, false, false, false, false]) (l' := #[true, true, false, false, false, false, false, false, false, false, false, false, false, false, false, false, false, false, false, false, false, false, false, false, false, false]) (i := 1) (d := some 48) (v := ?_) (by kernel_rfl) rfl (by kernel_rfl) (by kernel_rfl) (by kernel_rfl) (fun _ _ _ h => h) (Or.inl ⟨by rfl, ?_⟩) hS ?_
          rotate_left
          · (intro w0 hw0; obtain ⟨k1, k2, k3, k4, k5⟩ := HSF w0 hw0; go_simp; try with_reducible rfl)
          try simp only [Act.put, List.setIfInBounds_toArray, List.set_cons_zero, List.set_cons_succ]
          refine AnyT.takeL (l := #[true, true, false, false, false, false, false, false, false, false, false, false, false, false, false, false, false, false, false, false, false, false, false, false, false, false]) (l' := #[true, true, true, false, false, false, false, false, false, false, false, false, false, false, false, false, false, false, false, false, false, false, false, false, false, false]) (i := 2) (d := some 49) (v := ?_) (by kernel_rfl) rfl (by kernel_rfl) (by kernel_rfl) (by kernel_rfl) (fun _ _ _ h => h) (Or.inl ⟨by rfl, ?_⟩) hS ?_
          rotate_left
          · (intro w0 hw0; obtain ⟨k1, k2, k3, k4, k5⟩ := HSF w0 hw0; go_simp; try with_reducible rfl)
          try simp only [Act.put, List.setIfInBounds_toArray, List.set_cons_zero, List.set_cons_succ]
          refine AnyT.takeL (l := #[true, true, true, false, false, false, false, false, false, false, false, false, false, false, false, false, false, false, false, false, false, false, false, false, false, false]) (l' := #[true, true, true, true, false, false, false, false, false, false, false, false, false, false, false, false, false, false, false, false, false, false, false, false, false, false]) (i := 3) (d := some 50) (v := ?_) (by kernel_rfl) rfl (by kernel_rfl) (by kernel_rfl) (by kernel_rfl) (fun _ _ _ h => h) (Or.inl ⟨by rfl, ?_⟩) hS ?_
          rotate_left
          · (intro w0 hw0; obtain ⟨k1, k2, k3, k4, k5⟩ := HSF w0 hw0; go_simp; try with_reducible rfl)
          try simp only [Act.put, List.setIfInBounds_toArray, List.set_cons_zero, List.set_cons_succ]
          refine AnyT.takeL (l := #[true, true, true, true, false, false, false, false, false, false, false, false, false, false, false, false, false, false, false, false, false, false, false, false, false, false]) (l' := #[true, true, true, true, true, false, false, false, false, false, false, false, false, false, false, false, false, false, false, false, false, false, false, false, false, false]) (i := 4) (d := some 51) (v := ?_) (by kernel_rfl) rfl (by kernel_rfl) (by kernel_rfl) (by kernel_rfl) (fun _ _ _ h => h) (Or.inl ⟨by rfl, ?_⟩) hS ?_
          rotate_left
          · (intro w0 hw0; obtain ⟨k1, k2, k3, k4, k5⟩ := HSF w0 hw0; go_simp; try with_reducible rfl)
          try simp only [Act.put, List.setIfInBounds_toArray, List.set_cons_zero, List.set_cons_succ]
          refine AnyT.takeL (l := #[true, true, true, true, true, false, false, false, false, false, false, false, false, false, false, false, false, false, false, false, false, false, false, false, false, false]) (l' := #[true, true, true, true, true, true, false, false, false, false, false, false, false, false, false, false, false, false, false, false, false, false, false, false, false, false]) (i := 5) (d := some 52) (v := ?_) (by kernel_rfl) rfl (by kernel_rfl) (by kernel_rfl) (by kernel_rfl) (fun _ _ _ h => h) (Or.inl ⟨by rfl, ?_⟩) hS ?_
          rotate_left
          · (intro w0 hw0; obtain ⟨k1, k2, k3, k4, k5⟩ := HSF w0 hw0; go_simp; try with_reducible rfl)
          try simp only [Act.put, List.setIfInBounds_toArray, List.set_cons_zero, List.set_cons_succ]
          refine AnyT.takeL (l := #[true, true, true, true, true, true, false, false, false, false, false, false, false, false, false, false, false, false, false, false, false, false, false, false, false, false]) (l' := #[true, true, true, true, true, true, true, false, false, false, false, false, false, false, false, false, false, false, false, false, false, false, false, false, false, false]) (i := 6) (d := some 53) (v := ?_) (by kernel_rfl) rfl (by kernel_rfl) (by kernel_rfl) (by kernel_rfl) (fun _ _ _ h => h) (Or.inl ⟨by rfl, ?_⟩) hS ?_
          rotate_left
          · (intro w0 hw0; obtain ⟨k1, k2, k3, k4, k5⟩ := HSF w0 hw0; go_simp; try with_reducible rfl)
          try simp only [Act.put, List.setIfInBounds_toArray, List.set_cons_zero, List.set_cons_succ]
          refine AnyT.takeL (l := #[true, true, true, true, true, true, true, false, false, false, false, false, false, false, false, false, false, false, false, false, false, false, false, false, false, false]) (l' := #[true, true, true, true, true, true, true, true, false, false, false, false, false, false, false, false, false, false, false, false, false, false, false, false, false, false]) (i := 7) (d := some 54) (v := ?_) (by kernel_rfl) rfl (by kernel_rfl) (by kernel_rfl) (by kernel_rfl) (fun _ _ _ h => h) (Or.inl ⟨by rfl, ?_⟩) hS ?_
          rotate_left
          · (intro w0 hw0; obtain ⟨k1, k2, k3, k4, k5⟩ := HSF w0 hw0; go_simp; try with_reducible rfl)
          try simp only [Act.put, List.setIfInBounds_toArray, List.set_cons_zero, List.set_cons_succ]
          refine AnyT.takeL (l := #[true, true, true, true, true, true, true, true, false, false, false, false, false, false, false, false, false, false, false, false, false, false, false, false, false, false]) (l' := #[true, true, true, true, true, true, true, true, true, false, false, false, false, false, false, false, false, false, false, false, false, false, false, false, false, false]) (i := 8) (d := some 55) (v := ?_) (by kernel_rfl) rfl (by kernel_rfl) (by kernel_rfl) (by kernel_rfl) (fun _ _ _ h => h) (Or.inl ⟨by rfl, ?_⟩) hS ?_
          rotate_left
          · (intro w0 hw0; obtain ⟨k1, k2, k3, k4, k5⟩ := HSF w0 hw0; go_simp; try with_reducible rfl)
          try simp only [Act.put, List.setIfInBounds_toArray, List.set_cons_zero, List.set_cons_succ]
          refine AnyT.takeL (l := #[true, true, true, true, true, true, true, true, true, false, false, false, false, false, false, false, false, false, false, false, false, false, false, false, false, false]) (l' := #[true, true, true, true, true, true, true, true, true, true, false, false, false, false, false, false, false, false, false, false, false, false, false, false, false, false]) (i := 9) (d := some 56) (v := ?_) (by kernel_rfl) rfl (by kernel_rfl) (by kernel_rfl) (by kernel_rfl) (fun _ _ _ h => h) (Or.inl ⟨by rfl, ?_⟩) hS ?_
          rotate_left
          · (intro w0 hw0; obtain ⟨k1, k2, k3, k4, k5⟩ := HSF w0 hw0; go_simp; try with_reducible rfl)
          try simp only [Act.put, List.setIfInBounds_toArray, List.set_cons_zero, List.set_cons_succ]
          refine AnyT.takeL (l := #[true, true, true, true, true, true, true, true, true, true, false, false, false, false, false, false, false, false, false, false, false, false, false, false, false, false]) (l' := #[true, true, true, true, true, true, true, true, true, true, true, false, false, false, false, false, false, false, false, false, false, false, false, false, false, false]) (i := 10) (d := some 57) (v := ?_) (by kernel_rfl) rfl (by kernel_rfl) (by kernel_rfl) (by kernel_rfl) (fun _ _ _ h => h) (Or.inl ⟨by rfl, ?_⟩) hS ?_
          rotate_left
          · (intro w0 hw0; obtain ⟨k1, k2, k3, k4, k5⟩ := HSF w0 hw0; go_simp; try with_reducible rfl)
          try simp only [Act.put, List.setIfInBounds_toArray, List.set_cons_zero, List.set_cons_succ]
          refine AnyT.takeL (l := #[true, true, true, true, true, true, true, true, true, true, true, false, false, false, false, false, false, false, false, false, false, false, false, false, false, false]) (l' := #[true, true, true, true, true, true, true, true, true, true, true, true, false, false, false, false, false, false, false, false, false, false, false, false, false, false]) (i := 11) (d := some 58) (v := ?_) (by kernel_rfl) rfl (by kernel_rfl) (by kernel_rfl) (by kernel_rfl) (fun _ _ _ h => h) (Or.inl ⟨by rfl, ?_⟩) hS ?_
          rotate_left
          · (intro w0 hw0; obtain ⟨k1, k2, k3, k4, k5⟩ := HSF w0 hw0; go_simp; try with_reducible rfl)
          try simp only [Act.put, List.setIfInBounds_toArray, List.set_cons_zero, List.set_cons_succ]
          refine AnyT.takeL (l := #[true, true, true, true, true, true, true, true, true, true, true, true, false, false, false, false, false, false, false, false, false, false, false, false, false, false]) (l' := #[true, true, true, true, true, true, true, true, true, true, true, true, true, false, false, false, false, false, false, false, false, false, false, false, false, false]) (i := 12) (d := some 59) (v := ?_) (by kernel_rfl) rfl (by kernel_rfl) (by kernel_rfl) (by kernel_rfl) (fun _ _ _ h => h) (Or.inl ⟨by rfl, ?_⟩) hS ?_
          rotate_left
          · (intro w0 hw0; obtain ⟨k1, k2, k3, k4, k5⟩ := HSF w0 hw0; go_simp; try with_reducible rfl)
          try simp only [Act.put, List.setIfInBounds_toArray, List.set_cons_zero, List.set_cons_succ]
          refine AnyT.takeL (l := #[true, true, true, true, true, true, true, true, true, true, true, true, true, false, false, false, false, false, false, false, false, false, false, false, false, false]) (l' := #[true, true, true, true, true, true, true, true, true, true, true, true, true, true, false, false, false, false, false, false, false, false, false, false, false, false]) (i := 13) (d := some 60) (v := ?_) (by kernel_rfl) rfl (by kernel_rfl) (by kernel_rfl) (by kernel_rfl) (fun _ _ _ h => h) (Or.inl ⟨by rfl, ?_⟩) hS ?_
          rotate_left
          · (intro w0 hw0; obtain ⟨k1, k2, k3, k4, k5⟩ := HSF w0 hw0; go_simp; try with_reducible rfl)
          try simp only [Act.put, List.setIfInBounds_toArray, List.set_cons_zero, List.set_cons_succ]
          refine AnyT.takeL (l := #[true, true, true, true, true, true, true, true, true, true, true, true, true, true, false, false, false, false, false, false, false, false, false, false, false, false]) (l' := #[true, true, true, true, true, true, true, true, true, true, true, true, true, true, true, false, false, false, false, false, false, false, false, false, false, false]) (i := 14) (d := some 61) (v := ?_) (by kernel_rfl) rfl (by kernel_rfl) (by kernel_rfl) (by kernel_rfl) (fun _ _ _ h => h) (Or.inl ⟨by rfl, ?_⟩) hS ?_
          rotate_left
          · (intro w0 hw0; obtain ⟨k1, k2, k3, k4, k5⟩ := HSF w0 hw0; go_simp; try with_reducible rfl)
          try simp only [Act.put, List.setIfInBounds_toArray, List.set_cons_zero, List.set_cons_succ]
          refine AnyT.takeL (l := #[true, true, true, true, true, true, true, true, true, true, true, true, true, true, true, false, false, false, false, false, false, false, false, false, false, false]) (l' := #[true, true, true, true, true, true, true, true, true, true, true, true, true, true, true, true, false, false, false, false, false, false, false, false, false, false]) (i := 15) (d := some 62) (v := ?_) (by kernel_rfl) rfl (by kernel_rfl) (by kernel_rfl) (by kernel_rfl) (fun _ _ _ h => h) (Or.inl ⟨by rfl, ?_⟩) hS ?_
          rotate_left
          · (intro w0 hw0; obtain ⟨k1, k2, k3, k4, k5⟩ := HSF w0 hw0; go_simp; try with_reducible rfl)
          try simp only [Act.put, List.setIfInBounds_toArray, List.set_cons_zero, List.set_cons_succ]
          refine AnyT.takeL (l := #[true, true, true, true, true, true, true, true, true, true, true, true, true, true, true, true, false, false, false, false, false, false, false, false, false, false]) (l' := #[true, true, true, true, true, true, true, true, true, true, true, true, true, true, true, true, true, false, false, false, false, false, false, false, false, false]) (i := 16) (d := some 63) (v := ?_) (by kernel_rfl) rfl (by kernel_rfl) (by kernel_rfl) (by kernel_rfl) (fun _ _ _ h => h) (Or.inl ⟨by rfl, ?_⟩) hS ?_
          rotate_left
          · (intro w0 hw0; obtain ⟨k1, k2, k3, k4, k5⟩ := HSF w0 hw0; go_simp; try with_reducible rfl)
          try simp only [Act.put, List.setIfInBounds_toArray, List.set_cons_zero, List.set_cons_succ]
          refine AnyT.takeL (l := #[true, true, true, true, true, true, true, true, true, true, true, true, true, true, true, true, true, false, false, false, false, false, false, false, false, false]) (l' := #[true, true, true, true, true, true, true, true, true, true, true, true, true, true, true, true, true, true, false, false, false, false, false, false, false, false]) (i := 17) (d := some 64) (v := ?_) (by kernel_rfl) rfl (by kernel_rfl) (by kernel_rfl) (by kernel_rfl) (fun _ _ _ h => h) (Or.inl ⟨by rfl, ?_⟩) hS ?_
          rotate_left
          · (intro w0 hw0; obtain ⟨k1, k2, k3, k4, k5⟩ := HSF w0 hw0; go_simp; try with_reducible rfl)
          try simp only [Act.put, List.setIfInBounds_toArray, List.set_cons_zero, List.set_cons_succ]
          refine AnyT.takeL (l := #[true, true, true, true, true, true, true, true, true, true, true, true, true, true, true, true, true, true, false, false, false, false, false, false, false, false]) (l' := #[true, true, true, true, true, true, true, true, true, true, true, true, true, true, true, true, true, true, true, false, false, false, false, false, false, false]) (i := 18) (d := some 65) (v := ?_) (by kernel_rfl) rfl (by kernel_rfl) (by kernel_rfl) (by kernel_rfl) (fun _ _ _ h => h) (Or.inl ⟨by rfl, ?_⟩) hS ?_
          rotate_left
          · (intro w0 hw0; obtain ⟨k1, k2, k3, k4, k5⟩ := HSF w0 hw0; go_simp; try with_reducible rfl)
          try simp only [Act.put, List.setIfInBounds_toArray, List.set_cons_zero, List.set_cons_succ]
          refine AnyT.takeL (l := #[true, true, true, true, true, true, true, true, true, true, true, true, true, true, true, true, true, true, true, false, false, false, false, false, false, false]) (l' := #[true, true, true, true, true, true, true, true, true, true, true, true, true, true, true, true, true, true, true, false, true, false, false, false, false, false]) (i := 20) (d := some 67) (v := ?_) (by kernel_rfl) rfl (by kernel_rfl) (by kernel_rfl) (by kernel_rfl) (fun _ _ _ h => h) (Or.inl ⟨by rfl, ?_⟩) hS ?_
          rotate_left
          · (intro w0 hw0; obtain ⟨k1, k2, k3, k4, k5⟩ := HSF w0 hw0; go_simp; try with_reducible rfl)
          try simp only [Act.put, List.setIfInBounds_toArray, List.set_cons_zero, List.set_cons_succ]
          refine AnyT.onlyL (l := #[true, true, true, true, true, true, true, true, true, true, true, true, true, true, true, true, true, true, true, false, true, false, false, false, false, false]) (l' := #[true, true, true, true, true, true, true, true, true, true, true, true, true, true, true, true, true, true, true, true, true, false, false, false, false, false]) (i := 19) (by kernel_rfl) rfl (by kernel_rfl) (fun K hK => ?_)
          go_simp
          refine (HSE.out _ (M5.out.held.step hS)).mono ?_
          rintro e w7 ⟨rfl, h7⟩
          have hS7 : Held w6 w7 := hS.step h7
          refine hK.out _ _ (.inr hS7) ?_
          try simp only [Act.put, List.setIfInBounds_toArray, List.set_cons_zero, List.set_cons_succ]
          clear h7
          refine AnyT.takeL (l := #[true, true, true, true, true, true, true, true, true, true, true, true, true, true, true, true, true, true, true, true, true, false, false, false, false, false]) (l' := #[true, true, true, true, true, true, true, true, true, true, true, true, true, true, true, true, true, true, true, true, true, true, false, false, false, false]) (i := 21) (d := some 68) (v := ?_) (by kernel_rfl) rfl (by kernel_rfl) (by kernel_rfl) (by kernel_rfl) (fun _ _ _ h => h) (Or.inl ⟨by rfl, ?_⟩) hS7 ?_
          rotate_left
          · (intro w0 hw0; obtain ⟨k1, k2, k3, k4, k5⟩ := HSF w0 hw0; go_simp; try with_reducible rfl)
          try simp only [Act.put, List.setIfInBounds_toArray, List.set_cons_zero, List.set_cons_succ]
          refine AnyT.onlyL (l := #[true, true, true, true, true, true, true, true, true, true, true, true, true, true, true, true, true, true, true, true, true, true, false, false, false, false]) (l' := #[true, true, true, true, true, true, true, true, true, true, true, true, true, true, true, true, true, true, true, true, true, true, true, false, false, false]) (i := 22) (by kernel_rfl) rfl (by kernel_rfl) (fun K hK => ?_)
          go_simp
          refine (HPU.out _ hS7).mono ?_
          rintro e w9 ⟨A9, cap9, rfl, hc9, ho9, h9⟩
          have hS9 : Held w6 w9 := hS7.step h9
          have M9 := Lib.hid ((M5.out.keep hS7).ownF h9 ho9)
          rw [HLN.out] at M9 ⊢
          refine hK.out _ _ (.inr hS9) ?_
          try simp only [Act.put, List.setIfInBounds_toArray, List.set_cons_zero, List.set_cons_succ]
          clear ho9 h9
          refine AnyT.takeL (l := #[true, true, true, true, true, true, true, true, true, true, true, true, true, true, true, true, true, true, true, true, true, true, true, false, false, false]) (l' := #[true, true, true, true, true, true, true, true, true, true, true, true, true, true, true, true, true, true, true, true, true, true, true, true, false, false]) (i := 23) (d := some 70) (v := ?_) (by kernel_rfl) rfl (by kernel_rfl) (by kernel_rfl) (by kernel_rfl) (fun _ _ _ h => h) (Or.inl ⟨by rfl, ?_⟩) hS9 ?_
          rotate_left
          · (intro w0 hw0; obtain ⟨k1, k2, k3, k4, k5⟩ := HSF w0 hw0; go_simp; try with_reducible rfl)
          try simp only [Act.put, List.setIfInBounds_toArray, List.set_cons_zero, List.set_cons_succ]
          refine AnyT.takeL (l := #[true, true, true, true, true, true, true, true, true, true, true, true, true, true, true, true, true, true, true, true, true, true, true, true, false, false]) (l' := #[true, true, true, true, true, true, true, true, true, true, true, true, true, true, true, true, true, true, true, true, true, true, true, true, true, false]) (i := 24) (d := some 71) (v := ?_) (by kernel_rfl) rfl (by kernel_rfl) (by kernel_rfl) (by kernel_rfl) (fun _ _ _ h => h) (Or.inl ⟨by rfl, ?_⟩) hS9 ?_
          rotate_left
          · (intro w0 hw0; obtain ⟨k1, k2, k3, k4, k5⟩ := HSF w0 hw0; go_simp; try with_reducible rfl)
          try simp only [Act.put, List.setIfInBounds_toArray, List.set_cons_zero, List.set_cons_succ]
          refine AnyT.onlyL (l := #[true, true, true, true, true, true, true, true, true, true, true, true, true, true, true, true, true, true, true, true, true, true, true, true, true, false]) (l' := #[true, true, true, true, true, true, true, true, true, true, true, true, true, true, true, true, true, true, true, true, true, true, true, true, true, true]) (i := 25) (by kernel_rfl) rfl (by kernel_rfl) (fun K hK => ?_)
          have z9 := hS9.cell z3
          have z9f : w9.frozen? ⟨g, p * 4 + 3, none⟩ = false := frozen_held hS9 hlt z3f
          clear HSF
          go_simp
          refine hK.out _ _ (.inl rfl) ?_
          refine AnyT.done (by kernel_rfl) ?_ _
          have M10 := Lib.hid (mem_deltas M9.out hy HX.out)
          go_wp2
          go_meet
          case rel => exact ⟨A9, cap9, M10.out⟩
        case rest =>
          obtain ⟨A9, c9, hM⟩ := hcut
          have M11 := Lib.hid hM
          clear hM z3 z3f t1 f0 f1 ff0 ff1 flt c0 c1 cf0 cf1 clt
          obtain ⟨⟨r0, r1⟩, ⟨rf0, rf1⟩, rlt⟩ := M11.out.box2 0 rfl
          obtain ⟨⟨q0, q1⟩, ⟨qf0, qf1⟩, qlt⟩ := M11.out.box2 2 rfl
          have M20 := Lib.hid ((M11.out.put 2 rfl 0 (.slice Ab nb cb)).put 2 rfl 1 (.slice (some ⟨g, 0, none⟩) nn cn'))
          go_wp2
          refine bodyPost_ret (Bx.res_ct Try.results31 rfl (TB.load (M20.out.blk 2 rfl) rfl rfl)) rfl ?_
          exact WrR.yes (N := setDs T.nodes p PD) HP.out (by rw [HW.out, ← HPD.out]) (mixTr (cn := cn') (R := R.set p { y with A := A9, n := ln, cap := c9 }) HTR.out.bs HTR.out.bnil ⟨M20.out.rest.rest.rest, HE.out.ds hy HX.out A9 ln c9 PD HLN.out.symm⟩) M20.out.held
end Sn
end Go.Proofs.Ytncgihbnfmpdbaa
