/-
  Contracts of the reference: Encode (chapters 19, 24).
-/
import Derived.Test.YtdacgdokbfcgdaaGreatW16
import Derived.Test.YtdacgdokbfcgdaaGreatWxByB
import Derived.Test.YtdacgdokbfcgdaaGreatW1
import Derived.Deep.DeepCutAuto
set_option linter.unusedVariables false
set_option linter.unusedSimpArgs false
set_option maxRecDepth 100000
namespace Go.Proofs.YtdacgdokbfcgdaaGreat
open Go.RowKit Go.BigFrame Go.Sort Go.Lib
namespace Enc
open Lgc Lg Strs
set_option maxHeartbeats 4000000 in
theorem encoder_any (A : Option Addr) (n cap : Nat) (L : List Ent) (f : Nat) (w : World) (h : Sl 4 entC w A n L) (hn : n ≤ 1000000) (hx : ∀ x ∈ L, EntOK x) (hf : (f : Int) ≤ 18446744073709551615) :
    Calls Tryz.prog 13 #[.slice A n cap, .int .u64 f] w (EncTo (encode L f) w) := by
  have HS := Lib.hid h
  have HX := Lib.hid hx
  have HL := Lib.hid h.1
  have hl := h.1
  clear h hx
  by_cases h4 : (400 : Int) < n
  · have HE := Lib.hid (enc_long (f := f) (L := L) (by omega))
    clear hl
    go_enter Tryz.func13, Tryz.ntmps13
    go_wp2
    go_ret2
    exact EncTo.mk HE.out (Held.refl _)
  · have HN : Hid (¬ 400 < L.length) := by show ¬ _; omega
    clear hl
    go_enter Tryz.func13, Tryz.ntmps13
    go_wp2
    go_loopw [6] (fun i wr => ∃ k : Nat, i = .int .i64 k ∧ k ≤ n ∧ (L.take k).all okX = true ∧ Held w wr) (fun i _ => n - (RowKit.intOf i).toNat)
    case atStart => exact ⟨0, rfl, Nat.zero_le _, rfl, Held.refl _⟩
    case round =>
      obtain ⟨k, rfl, hk, ho, hh⟩ := hrel
      have HO := Lib.hid ho
      have HH := Lib.hid hh
      clear ho
      by_cases hlt : (k : Int) < n
      · obtain ⟨b, off, x, rfl, hb, hx1, hc1⟩ := HS.out.at_ hh (k := k) (by omega)
        have x1 := hc1 1 _ rfl
        have x2 := hc1 2 _ rfl
        have x3 := hc1 3 _ rfl
        have hkL : k < L.length := by have := HL.out; omega
        have hxe : L[k] = x := by rw [List.getElem?_eq_getElem hkL] at hx1; injection hx1
        have hn1 := all_next L k hkL
        rw [hxe, HO.out, Bool.true_and] at hn1
        have hxo : EntOK x := HX.out x (hxe ▸ List.getElem_mem hkL)
        have HNX := Lib.hid hn1
        have HV := Lib.hid (fun w => Ev.valid_ref x.k x.n x.d hxo.k1 hxo.k2 hxo.n1 hxo.n2 hxo.d w)
        have z0 : (0 : Int) ≤ k := by omega
        clear hc1 hx1 hxe hn1 hh hkL hxo
        obtain ⟨v, hv⟩ : ∃ v, Ev.ok x.k x.n x.d.data.toList = v := ⟨_, rfl⟩
        rw [hv] at HV
        have HVX : Hid (okX x = v) := hv
        clear hv
        cases v
        · have HE := Lib.hid (enc_form (f := f) HN.out (all_no (by rw [HNX.out]; exact HVX.out)))
          go_wp2_with (go_at_call 28; refine (HV.out _).mono ?_; rintro e w1 ⟨rfl, h1⟩)
          go_ret2
          exact EncTo.mk HE.out (HH.out.step h1)
        · go_wp2_with (go_at_call 28; refine (HV.out _).mono ?_; rintro e w1 ⟨rfl, h1⟩)
          go_roundw
          case rel => exact ⟨k + 1, by go_num, by omega, HNX.out.trans HVX.out, HH.out.step h1⟩
          case measure => (simp [RowKit.intOf]) <;> omega
      · obtain rfl : k = n := by omega
        have HA : Hid (L.all okX = true) := show _ = _ by have := HO.out; rw [← HL.out, List.take_length] at this; exact this
        clear hh HO
        have HOR := Lib.hid (fun cap w' (q : Held w w') => ordr_any A k cap L w' (HS.out.held q) (by omega) HX.out)
        go_upto_region 8 with fail
        go_cut [40] (fun v wx => v = .bool (!ord L || early L f) ∧ Held w wx)
        case first =>
          obtain ⟨o, ho⟩ : ∃ o, ord L = o := ⟨_, rfl⟩
          rw [ho] at HOR
          have HHO := Lib.hid ho
          clear ho
          cases o
          · go_wp2_with (go_at_call 29; refine (HOR.out _ _ HH.out).mono ?_; rintro e w1 ⟨rfl, h1⟩)
            go_meet
            exact ⟨by rw [HHO.out]; rfl, HH.out.step h1⟩
          · by_cases hk0 : k = 0
            · have he : Hid (early L f = false) := show _ = _ by
                have : L = [] := List.eq_nil_of_length_eq_zero (by have := HL.out; omega)
                subst this; rfl
              have d1 : decide ((0 : Int) < k) = false := by simp; omega
              have d1n : decide (0 < k) = false := by simp; omega
              clear hk0
              go_wp2_with (go_at_call 29; refine (HOR.out _ _ HH.out).mono ?_; rintro e w1 ⟨rfl, h1⟩)
              go_meet
              exact ⟨by rw [HHO.out, he.out]; rfl, HH.out.step h1⟩
            · obtain ⟨b, off, x, rfl, hb, hx1, hc1⟩ := HS.out.at_ (Held.refl w) (k := 0) (by omega)
              have x0 := hc1 0 _ rfl
              simp only [Nat.zero_mul, Nat.add_zero] at x0
              have he : Hid (early L f = decide (x.t < f)) := show _ = _ by unfold early; rw [hx1]
              have d1 : (0 : Int) < k := by omega
              have d1n : 0 < k := by omega
              clear hk0 hc1 hx1
              have X0 := Lib.hid (fun w' (q : Held w w') => q.cell x0)
              clear x0
              by_cases hlt2 : x.t < f
              · have e1 : (x.t : Int) < f := by omega
                go_wp2_with (go_at_call 29; refine (HOR.out _ _ HH.out).mono ?_; rintro e w1 ⟨rfl, h1⟩; have x0 := X0.out _ (HH.out.step h1))
                go_meet
                exact ⟨by rw [HHO.out, he.out]; simp [hlt2], HH.out.step h1⟩
              · have e2 : decide (x.t < f) = false := by simp; omega
                have e1 : decide ((x.t : Int) < f) = false := by simp; omega
                go_wp2_with (go_at_call 29; refine (HOR.out _ _ HH.out).mono ?_; rintro e w1 ⟨rfl, h1⟩; have x0 := X0.out _ (HH.out.step h1))
                go_meet
                exact ⟨by rw [HHO.out, he.out]; simp [hlt2], HH.out.step h1⟩
        case rest =>
          obtain ⟨rfl, hhx⟩ := hcut
          clear HOR HH
          have HH := Lib.hid hhx
          clear hhx
          obtain ⟨o, ho⟩ : ∃ o, (!ord L || early L f) = o := ⟨_, rfl⟩
          rw [ho]
          cases o
          · have HHO := Lib.hid ho
            clear ho
            have hor : ord L = true ∧ early L f = false := by have := HHO.out; simpa using this
            have HOE := Lib.hid hor
            clear hor
            have hpk := Uv.put_len k (by omega)
            have HP := Lib.hid (fun w => put_ref_any k (by omega) w)
            have HLK : Hid (Uv.put L.length = Uv.put k) := show _ = _ by rw [HL.out]
            generalize Uv.put k = pk at hpk HP HLK
            go_wp2_with fail
            refine (HP.out _).mono ?_
            rintro e w1 ⟨rfl, h1⟩
            have W1 := Lib.hid (HH.out.step h1)
            obtain ⟨bv, w2, hcv, hbo, hh2⟩ := ByB.of_string ⟨pk.toArray⟩ w1 (by rw [ba_size]; omega)
            have B2 : Hid (ByB.BOwn w.heap.size w2 bv (pk ++ encF f (L.take 0))) := by
              have := hbo
              simp only [List.take_zero, encF, List.append_nil]
              obtain ⟨g, cp, q1, q2, q3⟩ := this.out
              exact ⟨g, cp, q1, Nat.le_trans W1.out.le q2, q3⟩
            have W2 := Lib.hid (W1.out.step hh2)
            clear h1 HP hbo hh2 HH
            go_wp2
            go_loopw [1, 7, 8] (fun lt v i wr => ∃ q : Nat, i = .int .i64 q ∧ q ≤ k ∧ lt = .int .u64 (lastT f (L.take q) : Nat) ∧ ByB.BOwn w.heap.size wr v (pk ++ encF f (L.take q)) ∧ Held w wr) (fun _ _ i _ => k - (RowKit.intOf i).toNat)
            case atStart => exact ⟨0, rfl, Nat.zero_le _, rfl, B2.out, W2.out⟩
            case round =>
              obtain ⟨q, rfl, hq, rfl, hi, hh⟩ := hrel
              have HI := Lib.hid hi
              have HH := Lib.hid hh
              have hel : (encF f (L.take q)).length ≤ 168 * q := by
                have := encF_len (L := L.take q) (fun y hy => ⟨HX.out y (List.mem_of_mem_take hy), by have h9 := HA.out; rw [List.all_eq_true] at h9; exact h9 y (List.mem_of_mem_take hy)⟩) f
                rw [List.length_take] at this
                omega
              clear hi B2 W2
              by_cases hlt2 : (q : Int) < k
              · obtain ⟨b, off, x, rfl, hb, hx1, hc1⟩ := HS.out.at_ (Held.refl w) (k := q) (by omega)
                have x0 := hc1 0 _ rfl
                have x1 := hc1 1 _ rfl
                have x2 := hc1 2 _ rfl
                have x3 := hc1 3 _ rfl
                rw [Nat.add_zero] at x0
                have hqL : q < L.length := by have := HL.out; omega
                have hxe : L[q] = x := by rw [List.getElem?_eq_getElem hqL] at hx1; injection hx1
                have hxm : x ∈ L := hxe ▸ List.getElem_mem hqL
                have hxo := HX.out x hxm
                have hxk : okX x = true := by have h9 := HA.out; rw [List.all_eq_true] at h9; exact h9 x hxm
                obtain ⟨k1, k6, kd⟩ := ok_bd hxk
                have hle := last_le HOE.out.1 HOE.out.2 hqL
                have hln := lastT_next L f q hqL
                have hen := encF_next L f q hqL
                rw [hxe] at hle hln hen
                have hxt := hxo.t
                have hxn := hxo.n1
                have hxn2 := hxo.n2
                clear hxm hxo hxk hxe hx1 hc1
                obtain ⟨t, kk, nn, d⟩ := x
                simp only at x0 x1 x2 x3 k1 k6 kd hle hln hen hxt hxn hxn2
                obtain ⟨kk, rfl⟩ := Int.eq_ofNat_of_zero_le (show 0 ≤ kk by omega)
                obtain ⟨nn, rfl⟩ := Int.eq_ofNat_of_zero_le hxn
                rw [len_eq] at kd
                generalize lastT f (L.take q) = lt at hle hen ⊢
                have HLN := Lib.hid hln
                have HEN := Lib.hid hen
                have hsub : IntKind.u64.wrap ((t : Int) - (lt : Int)) = ((t - lt : Nat) : Int) := by
                  rw [IntWalk.u64_in _ (by omega)]; omega
                have HP := Lib.hid (fun w => put_ref_any (t - lt) (by omega) w)
                have hpl := Uv.put_len (t - lt) (by omega)
                have HQ := Lib.hid (fun w => putr_any kk nn d (by omega) (by omega) (by omega) kd w)
                unfold MakesS at HQ
                have hql := encE_len (k := kk) (n := nn) (d := d.data.toList) (by omega) (by omega) (by omega) (by omega) (by rw [len_eq]; exact kd)
                have hcl : (pk ++ encF f (L.take q)).length ≤ 70000 := by rw [List.length_append]; omega
                generalize Uv.put (t - lt) = pt at HP hpl HEN hen
                generalize encE kk nn d.data.toList = pe at HQ hql HEN hen
                have hacc : pk ++ encF f (L.take q) ++ pt ++ pe = pk ++ encF f (L.take (q + 1)) := by rw [hen]; simp only [List.append_assoc]
                generalize pk ++ encF f (L.take q) = acc at HI hcl hacc
                have HACC : Hid (acc ++ pt ++ pe = pk ++ encF f (L.take (q + 1))) := hacc
                have z0 : (0 : Int) ≤ q := by omega
                have HC := Lib.hid fun (w' : World) (k : Held w w') => And.intro (k.cell x0) (And.intro (k.cell x1) (And.intro (k.cell x2) (k.cell x3)))
                clear hln hen hh hle x0 x1 x2 x3 hacc
                obtain ⟨x0, x1, x2, x3⟩ := HC.out _ HH.out
                go_wp2_with fail
                refine (HP.out _).mono ?_
                rintro e w3 ⟨rfl, h3⟩
                obtain ⟨v4, w4, hr4, hb4, hk4⟩ := ByB.app_run (HI.out.held h3) (HH.out.step h3).le ⟨pt.toArray⟩ (by rw [ba_size]; omega) 37
                have W4 := Lib.hid (hk4 w (HH.out.step h3) (Nat.le_refl _))
                have B4 : Hid (ByB.BOwn w.heap.size w4 v4 (acc ++ pt)) := hb4
                clear h3 HP hb4 hk4 x0 x1 x2 x3
                obtain ⟨x0, x1, x2, x3⟩ := HC.out _ W4.out
                go_wp2_with (refine Sg.list_append rfl _ _ _ _ 37 rfl rfl rfl rfl hr4 ?_)
                refine (HQ.out _).mono ?_
                rintro e w5 ⟨rfl, h5⟩
                obtain ⟨v6, w6, hr6, hb6, hk6⟩ := ByB.app_run (B4.out.held h5) (W4.out.step h5).le ⟨pe.toArray⟩ (by rw [ba_size, List.length_append]; omega) 37
                have W6 := Lib.hid (hk6 w (W4.out.step h5) (Nat.le_refl _))
                have B6 : Hid (ByB.BOwn w.heap.size w6 v6 (pk ++ encF f (L.take (q + 1)))) := by rw [← HACC.out]; exact hb6
                clear h5 HQ hb6 hk6 x0 x1 x2 x3 hr4
                obtain ⟨x0, x1, x2, x3⟩ := HC.out _ W6.out
                go_wp2_with (refine Sg.list_append rfl _ _ _ _ 37 rfl rfl rfl rfl hr6 ?_)
                go_roundw
                case rel => exact ⟨q + 1, by go_num, by omega, by rw [HLN.out], B6.out, W6.out⟩
                case measure => (simp [RowKit.intOf]) <;> omega
              · obtain rfl : q = k := by omega
                have htk : L.take q = L := by rw [← HL.out, List.take_length]
                have hcl : (pk ++ encF f L).length ≤ 70000 := by rw [htk] at hel; rw [List.length_append]; omega
                rw [htk] at HI
                clear hh hel htk
                have hcc : Uv.put L.length ++ encF f L = pk ++ encF f L := by rw [HLK.out]
                by_cases h65 : 65536 < (pk ++ encF f L).length
                · have HE := Lib.hid (enc_big (f := f) HN.out HA.out (by simp [HOE.out.1, HOE.out.2]) (by rw [hcc]; exact h65))
                  clear hcc
                  obtain ⟨r, hr⟩ : ∃ r, pk ++ encF f L = r := ⟨_, rfl⟩
                  rw [hr] at HI h65 hcl
                  have h65' : (65536 : Int) < r.length := by omega
                  clear hr
                  obtain ⟨g, cp, rfl, _⟩ := HI.out.out
                  go_wp2
                  go_ret2
                  exact EncTo.mk HE.out HH.out
                · have HE := Lib.hid (enc_yes (f := f) HN.out HA.out (by simp [HOE.out.1, HOE.out.2]) (by rw [hcc]; exact h65))
                  rw [hcc] at HE
                  clear hcc
                  obtain ⟨r, hr⟩ : ∃ r, pk ++ encF f L = r := ⟨_, rfl⟩
                  rw [hr] at HI HE h65 hcl
                  have h65' : ¬ (65536 : Int) < r.length := by omega
                  clear hr
                  have hbk := ByB.back HI.out
                  obtain ⟨g, cp, rfl, _⟩ := HI.out.out
                  go_wp2
                  go_ret2
                  exact EncTo.mk (by rw [HE.out]) HH.out
          · have HE := Lib.hid (enc_order HN.out HA.out ho)
            clear ho
            go_wp2
            go_ret2
            exact EncTo.mk HE.out HH.out
end Enc
end Go.Proofs.YtdacgdokbfcgdaaGreat
