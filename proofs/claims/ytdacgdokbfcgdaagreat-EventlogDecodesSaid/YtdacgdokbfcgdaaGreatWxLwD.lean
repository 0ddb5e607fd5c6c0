/-
  The walk of EventlogDecodes.
-/
import Derived.Test.YtdacgdokbfcgdaaGreatW20
import Derived.Test.YtdacgdokbfcgdaaGreatWxRsB
import Derived.Test.YtdacgdokbfcgdaaGreatWxRsD
import Derived.Test.YtdacgdokbfcgdaaGreatWxFlip
set_option linter.unusedVariables false
set_option linter.unusedSimpArgs false
set_option maxRecDepth 100000
namespace Go.Proofs.YtdacgdokbfcgdaaGreat
open Go.RowKit Go.BigFrame Go.Sort Go.Lib
namespace Lw
open Enc (Ent entC EntOK okX encode decL Dec DecTo EncTo entC_len)
open Ma (nC RecTo recorded_any same_any SameTo entAt)
open Opn (nZ few_any)
theorem enc_le (L : List Ent) (f : Nat) : (encode L f).1.length ≤ 65536 := by
  unfold encode
  split
  · exact Nat.zero_le _
  · split
    · exact Nat.zero_le _
    · split
      · exact Nat.zero_le _
      · split
        · exact Nat.zero_le _
        · exact Nat.le_of_not_lt (by assumption)
set_option maxHeartbeats 4000000 in
theorem decodes_law (s : ByteArray) (raw : Bool) (kind : Int) (A1 : Option Addr) (n1 c1 : Nat) (L1 : List Int) (A2 : Option Addr) (n2 c2 : Nat) (L2 : List Int) (at_ b : Int) (from_ : Int)
    (ws : s.size ≤ 9223372036854775807) (wk : (Lit.int .i64 kind).wf = true) (wa : (Lit.int .i64 at_).wf = true) (wb : (Lit.int .i64 b).wf = true) (wf : (Lit.int .u64 from_).wf = true) (W : World)
    (g1 : Sl 1 nZ W A1 n1 L1 ∧ n1 ≤ maxLen) (g2 : Sl 1 nZ W A2 n2 L2 ∧ n2 ≤ maxLen) :
    Calls Tryz.prog 5 #[.string s, .bool raw, .int .i64 kind, .slice A1 n1 c1, .slice A2 n2 c2, .int .i64 at_, .int .i64 b, .int .u64 from_] W (LawTo W) := by
  have bk := Rw.bd_i64 wk
  have bb := Rw.bd_i64 wb
  have ba := Rw.bd_i64 wa
  have bf := Rw.bd_u64 wf
  obtain ⟨f, rfl⟩ : ∃ f : Nat, from_ = (f : Int) := ⟨from_.toNat, by omega⟩
  have HAW := Lib.hid fun w => Enc.awake_any w
  by_cases hfew : n1 ≤ 40 ∧ n2 ≤ 30
  · have HF := Lib.hid fun w => few_any A1 A2 n1 n2 c1 c2 true (by rw [decide_eq_true hfew.1, decide_eq_true hfew.2]; rfl) w
    have HRC := Lib.hid fun (w' : World) (h : Held W w') => recorded_any kind 5 0 bk (by decide) (by decide) A1 A2 n1 c1 n2 c2 L1 L2 w' (Sl.held g1.1 h) (Sl.held g2.1 h) hfew.1 hfew.2
    unfold RecTo at HRC
    clear g1 g2 wk wa wf hfew
    by_cases h300 : (300 : Int) < s.size
    · go_enter Tryz.func5, Tryz.ntmps5
      go_wp2_with fail
      refine (HF.out _).mono ?_
      rintro e w1 ⟨rfl, h1⟩
      go_wp2_with fail
      refine (HAW.out _).mono ?_
      rintro e w3 ⟨rfl, h3⟩
      go_wp2
      go_ret
      exact ⟨rfl, h1.step h3⟩
    · go_enter Tryz.func5, Tryz.ntmps5
      go_wp2_with fail
      refine (HF.out _).mono ?_
      rintro e w1 ⟨rfl, h1⟩
      have H1 := Lib.hid h1
      clear h1
      go_upto_if 36 with fail
      go_cut [0, 7] (fun v0 v7 wx => ∃ (s' : ByteArray) (f' : Nat), v0 = .string s' ∧ s'.size ≤ 65536 ∧ v7 = .int .u64 (f' : Int) ∧ f' ≤ 18446744073709551615 ∧ Held W wx)
      case first =>
        cases raw
        · obtain ⟨fm, hfm⟩ : ∃ fm : Nat, f % 100 = fm := ⟨_, rfl⟩
          have hfm1 : (f : Int) % 100 = (fm : Int) := by omega
          have hfm2 : fm < 100 := by omega
          clear hfm
          go_wp2_with fail
          refine (HRC.out _ H1.out).mono ?_
          rintro e w3 ⟨A, n, cap, L, rfl, hL, _, _, hn, hok, _, h3⟩
          have HE := Lib.hid (Enc.encoder_any A n cap L fm w3 hL (by omega) hok (by omega))
          have h9 := enc_le L fm
          obtain ⟨t, ht⟩ : ∃ t : ByteArray, (⟨(encode L fm).1.toArray⟩ : ByteArray) = t := ⟨_, rfl⟩
          obtain ⟨c, hc⟩ : ∃ c, (encode L fm).2 = c := ⟨_, rfl⟩
          have hts : t.size ≤ 65536 := by rw [← ht]; simpa [ByteArray.size] using h9
          unfold EncTo at HE
          rw [ht, hc] at HE
          have H3 := Lib.hid (H1.out.step h3)
          clear hL hok h3 ht hc h9 hn HRC HF
          go_wp2_with fail
          refine HE.out.mono ?_
          rintro e w4 ⟨rfl, h4⟩
          have H4 := Lib.hid (H3.out.step h4)
          clear h4 H3 HE
          by_cases ht0 : t.size = 0
          · obtain rfl : t = ⟨#[]⟩ := by
              obtain ⟨⟨l⟩⟩ := t
              have : l = [] := List.eq_nil_of_length_eq_zero (by simpa [ByteArray.size] using ht0)
              rw [this]
            clear ht0 hts
            go_wp2_with fail
            go_meet
            case rel => exact ⟨s, fm, rfl, by omega, rfl, by omega, H4.out⟩
          · have ql : (t.toList == ([] : List UInt8)) = false := by
              rw [As.ba_eq]
              exact decide_eq_false fun h => ht0 (by rw [← Lgc.len_eq, h]; rfl)
            have HR := Lib.hid fun w => Mk.round_any at_ (t.size : Int) (by omega) (by omega) (by omega) (by omega) w
            have hbk := Mk.round_bd at_ (t.size : Int) (by omega)
            obtain ⟨rk, hrk⟩ : ∃ r, Mk.round at_ (t.size : Int) = r := ⟨_, rfl⟩
            rw [hrk] at HR hbk
            obtain ⟨k, rfl⟩ : ∃ k : Nat, rk = (k : Int) := ⟨rk.toNat, by omega⟩
            have hk : k < t.size := by omega
            have y1 : (k : Int) < t.size := by omega
            have y0 : (0 : Int) ≤ k := by omega
            have y2 : (k : Int) ≤ t.size := by omega
            obtain ⟨c', hc'⟩ : ∃ c' : UInt8, IntKind.u8.wrap (bits .and .i64 b 255) = (c'.toNat : Int) := by
              have := Rw.bd_u8 (wf_wrap .u8 (bits .and .i64 b 255))
              exact ⟨UInt8.ofNat (IntKind.u8.wrap (bits .and .i64 b 255)).toNat, by rw [Uv.ofNat_toNat (by omega)]; omega⟩
            obtain ⟨C, capc, hconv, hfz, hcl, hback⟩ := Flip.facts t w4 k hk c'
            have hbk1 : (convert 37 9 (.slice (some ⟨w4.heap.size, 0, none⟩) t.size capc)).run Tryz.prog ((w4.alloc (.cells C 5 (C.size, C.size + 1))).setCell ⟨w4.heap.size, k, none⟩ (.int .u8 c'.toNat)).drew =
                .ok (.string ⟨(t.data.toList.set k c').toArray⟩) ((w4.alloc (.cells C 5 (C.size, C.size + 1))).setCell ⟨w4.heap.size, k, none⟩ (.int .u8 c'.toNat)).drew := hback 1
            clear hback
            have hq : t[k].toNat ≤ 255 := by have := t[k].toNat_lt; omega
            have W5 : Hid (Held W ((w4.alloc (.cells C 5 (C.size, C.size + 1))).setCell ⟨w4.heap.size, k, none⟩ (.int .u8 c'.toNat))) := (H4.out.alloc _).set H4.out.le _
            have H4' := H4.out.le
            have hs9 : (⟨(t.data.toList.set k c').toArray⟩ : ByteArray).size ≤ 65536 := by
              have e : (⟨(t.data.toList.set k c').toArray⟩ : ByteArray).size = t.size := by
                rw [← Lgc.len_eq, ← Lgc.len_eq t]; simp
              omega
            have HS9 := Lib.hid hs9
            clear hs9
            obtain ⟨s9, hs9⟩ : ∃ s9 : ByteArray, (⟨(t.data.toList.set k c').toArray⟩ : ByteArray) = s9 := ⟨_, rfl⟩
            rw [hs9] at hbk1 HS9
            clear hs9
            by_cases h256 : bits .and .i64 b 256 = 0
            · go_wp2_with (go_at_call 15; refine (HR.out _).mono ?_; rintro e w6 ⟨rfl, rfl⟩)
              go_meet
              case rel => exact ⟨s9, fm, rfl, HS9.out, rfl, by omega, W5.out.drew⟩
            · go_wp2_with (go_at_call 15; refine (HR.out _).mono ?_; rintro e w6 ⟨rfl, rfl⟩)
              go_meet
              case rel => exact ⟨_, fm, rfl, by simp only [ByteArray.size_extract]; omega, rfl, by omega, W5.out.drew⟩
        · go_wp2_with fail
          go_meet
          case rel => exact ⟨s, f, rfl, by omega, rfl, by omega, H1.out⟩
      case rest =>
        obtain ⟨s', f', rfl, hs', rfl, hf', hh⟩ := hcut
        have HH := Lib.hid hh
        clear hh HRC HF H1 h300
        by_cases h3000 : (3000 : Int) < s'.size
        · go_wp2_with fail
          refine (HAW.out _).mono ?_
          rintro e w3 ⟨rfl, h3⟩
          go_wp2
          go_ret
          exact ⟨rfl, HH.out.step h3⟩
        · have HD1 := Lib.hid fun w => Enc.decode_any s' f' (by omega) (by omega) w
          have HD2 := Lib.hid fun w => Enc.decoder_any s' f' (by omega) (by omega) w
          obtain ⟨L, c, hd⟩ : ∃ L c, decL s'.data.toList f' = (L, c) := ⟨_, _, rfl⟩
          unfold DecTo at HD1 HD2
          rw [hd] at HD1 HD2
          dsimp only at HD1 HD2
          obtain ⟨nL, hnL⟩ : ∃ nL, L.length = nL := ⟨_, rfl⟩
          rw [hnL] at HD1 HD2
          clear hd hnL
          go_wp2_with fail
          refine (HD1.out _).mono ?_
          rintro e w4 ⟨A4, cap4, rfl, ho4, h4, _, hl4⟩
          have HO4 := Lib.hid (Own.reads entC_len ho4).1
          have H4 := Lib.hid h4
          clear ho4 h4 HD1
          go_wp2_with fail
          refine (HD2.out _).mono ?_
          rintro e w5 ⟨A5, cap5, rfl, ho5, h5, _, _⟩
          have HSE := Lib.hid fun (w' : World) (h : Held w5 w') => same_any A4 A5 nL nL cap4 cap5 L L w' ((HO4.out.held h5).held h) ((Own.reads entC_len ho5).1.held h) (by omega) (by omega)
          have H5 := Lib.hid (H4.out.step h5)
          unfold SameTo at HSE
          clear ho5 h5 HD2
          go_wp2_with fail
          refine (HSE.out _ (Held.refl _)).mono ?_
          rintro e w7 ⟨q, rfl, hq, h7⟩
          obtain rfl : q = true := by simpa using hq
          clear hq HSE
          go_wp2_with fail
          refine (HAW.out _).mono ?_
          rintro e w8 ⟨rfl, h8⟩
          go_wp2
          go_ret
          exact ⟨rfl, HH.out.step ((H5.out.step h7).step h8)⟩
  · have hb : (decide (n1 ≤ 40) && decide (n2 ≤ 30)) = false := by
      rw [Bool.and_eq_false_iff, decide_eq_false_iff_not, decide_eq_false_iff_not]
      omega
    have HF := Lib.hid fun w => few_any A1 A2 n1 n2 c1 c2 false hb.symm w
    clear g1 g2 wk wa wf hfew hb
    go_enter Tryz.func5, Tryz.ntmps5
    go_wp2_with fail
    refine (HF.out _).mono ?_
    rintro e w1 ⟨rfl, h1⟩
    go_wp2_with fail
    refine (HAW.out _).mono ?_
    rintro e w3 ⟨rfl, h3⟩
    go_wp2
    go_ret
    exact ⟨rfl, h1.step h3⟩
end Lw
end Go.Proofs.YtdacgdokbfcgdaaGreat
