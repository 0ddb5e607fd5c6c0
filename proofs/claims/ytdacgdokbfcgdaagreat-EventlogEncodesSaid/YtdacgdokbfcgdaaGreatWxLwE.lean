/-
  The walk of EventlogEncodes.
-/
import Derived.Test.YtdacgdokbfcgdaaGreatW20
import Derived.Test.YtdacgdokbfcgdaaGreatWxRsB
import Derived.Test.YtdacgdokbfcgdaaGreatWxDcD
set_option linter.unusedVariables false
set_option linter.unusedSimpArgs false
set_option maxRecDepth 100000
namespace Go.Proofs.YtdacgdokbfcgdaaGreat
open Go.RowKit Go.BigFrame Go.Sort Go.Lib
namespace Lw
open Enc (Ent entC EntOK okX encode decL Dec DecTo EncTo entC_len)
open Ma (nC RecTo recorded_any same_any SameTo entAt)
open Opn (nZ few_any)
def ShortTo (n : Nat) (w : World) (e : Ending) (w' : World) : Prop := ∃ b : Bool, e = .returned (.bool b) ∧ (b = true → n ≤ 60) ∧ Held w w'
set_option maxHeartbeats 1000000 in
theorem short_any (A : Option Addr) (n c : Nat) (L : List Ent) (w : World) (h : Sl 4 entC w A n L) (hok : ∀ x ∈ L, EntOK x) (hn : n ≤ maxLen) : Calls Tryz.prog 12 #[.slice A n c] w (ShortTo n w) := by
  have HL := Lib.hid h
  have HOK := Lib.hid hok
  unfold maxLen at hn
  clear h hok
  go_enter Tryz.func12, Tryz.ntmps12
  go_wp2
  go_loopw [3] (fun i wr => ∃ q : Nat, i = .int .i64 (q : Int) ∧ q ≤ n ∧ q ≤ 70 ∧ Held w wr) (fun i _ => n - (RowKit.intOf i).toNat)
  case atStart => exact ⟨0, rfl, Nat.zero_le _, Nat.zero_le _, Held.refl _⟩
  case round =>
    obtain ⟨q, rfl, hq, hq70, hh⟩ := hrel
    have HH := Lib.hid hh
    clear hh
    by_cases hlt : q < n
    · have y1 : (q : Int) < n := by omega
      have y0 : (0 : Int) ≤ q := by omega
      by_cases h70 : q < 70
      · have y2 : (q : Int) < 70 := by omega
        obtain ⟨b1, o1, x, rfl, _, hx, x0, x1, x2, x3⟩ := entAt HL.out HH.out (k := q) hlt
        have hxd := (HOK.out x (List.mem_of_getElem? hx)).d
        by_cases h3 : (300 : Int) < x.d.size
        · go_wp2
          go_ret
          exact ⟨false, rfl, (fun h => by cases h), HH.out⟩
        · go_wp2
          go_roundw
          case rel => exact ⟨q + 1, by go_num, by omega, by omega, HH.out⟩
          case measure => (simp [RowKit.intOf]) <;> omega
      · have y2 : ¬ (q : Int) < 70 := by omega
        have y3 : ¬ (n : Int) ≤ 60 := by omega
        go_wp2
        go_ret
        exact ⟨false, rfl, (fun h => by cases h), HH.out⟩
    · obtain rfl : q = n := by omega
      have y1 : ¬ (q : Int) < q := by omega
      go_wp2
      go_ret
      exact ⟨decide ((q : Int) ≤ 60), rfl, fun h => (by have := of_decide_eq_true h; omega), HH.out⟩
set_option maxHeartbeats 4000000 in
theorem encodes_law (kind : Int) (A1 : Option Addr) (n1 c1 : Nat) (L1 : List Int) (A2 : Option Addr) (n2 c2 : Nat) (L2 : List Int) (how at_ : Int) (A3 : Option Addr) (n3 c3 : Nat) (L3 : List Ent) (raw : Bool) (from_ : Int)
    (wk : (Lit.int .i64 kind).wf = true) (wh : (Lit.int .i64 how).wf = true) (wa : (Lit.int .i64 at_).wf = true) (wf : (Lit.int .u64 from_).wf = true) (W : World)
    (g1 : Sl 1 nZ W A1 n1 L1 ∧ n1 ≤ maxLen) (g2 : Sl 1 nZ W A2 n2 L2 ∧ n2 ≤ maxLen) (g3 : Sl 4 entC W A3 n3 L3 ∧ n3 ≤ maxLen ∧ ∀ x ∈ L3, EntOK x) :
    Calls Tryz.prog 4 #[.int .i64 kind, .slice A1 n1 c1, .slice A2 n2 c2, .int .i64 how, .int .i64 at_, .slice A3 n3 c3, .bool raw, .int .u64 from_] W (LawTo W) := by
  have bk := Rw.bd_i64 wk
  have bh := Rw.bd_i64 wh
  have ba := Rw.bd_i64 wa
  have bf := Rw.bd_u64 wf
  obtain ⟨f, rfl⟩ : ∃ f : Nat, from_ = (f : Int) := ⟨from_.toNat, by omega⟩
  have HAW := Lib.hid fun w => Enc.awake_any w
  have HSH := Lib.hid fun (w' : World) (h : Held W w') => short_any A3 n3 c3 L3 w' (g3.1.held h) g3.2.2 g3.2.1
  unfold ShortTo at HSH
  have HG3 := Lib.hid g3
  by_cases hfew : n1 ≤ 40 ∧ n2 ≤ 30
  · have HF := Lib.hid fun w => few_any A1 A2 n1 n2 c1 c2 true (by rw [decide_eq_true hfew.1, decide_eq_true hfew.2]; rfl) w
    have HRC := Lib.hid fun (w' : World) (h : Held W w') => recorded_any kind how at_ bk bh ba A1 A2 n1 c1 n2 c2 L1 L2 w' (Sl.held g1.1 h) (Sl.held g2.1 h) hfew.1 hfew.2
    unfold RecTo at HRC
    clear g1 g2 g3 wk wh wa wf hfew
    go_enter Tryz.func4, Tryz.ntmps4
    go_wp2_with fail
    refine (HF.out _).mono ?_
    rintro e w1 ⟨rfl, h1⟩
    go_wp2_with fail
    refine (HSH.out _ h1).mono ?_
    rintro e w2 ⟨b, rfl, hb, h2⟩
    have H2 := Lib.hid (h1.step h2)
    clear h1 h2
    cases b
    · go_wp2_with fail
      refine (HAW.out _).mono ?_
      rintro e w3 ⟨rfl, h3⟩
      go_wp2
      go_ret
      exact ⟨rfl, H2.out.step h3⟩
    · have hn3 := hb rfl
      clear hb
      go_upto_if 34 with fail
      go_cut [5, 7] (fun v5 v7 wx => ∃ (A : Option Addr) (n cap : Nat) (L : List Ent) (f' : Nat), v5 = .slice A n cap ∧ v7 = .int .u64 (f' : Int) ∧ f' ≤ 18446744073709551615 ∧ Sl 4 entC wx A n L ∧ n ≤ 1000 ∧ (∀ x ∈ L, EntOK x) ∧ Held W wx)
      case first =>
        cases raw
        · go_wp2_with fail
          refine (HRC.out _ H2.out).mono ?_
          rintro e w3 ⟨A, n, cap, L, rfl, hL, _, _, hn, hok, _, h3⟩
          have HZ := Lib.hid (And.intro hL (And.intro hn (And.intro hok h3)))
          clear hL hn hok h3
          go_wp2_with fail
          go_meet
          case rel => exact ⟨A, n, cap, L, f % 100, rfl, by congr 1, by omega, HZ.out.1, by have := HZ.out.2.1; omega, HZ.out.2.2.1, H2.out.step HZ.out.2.2.2⟩
        · go_wp2_with fail
          go_meet
          case rel => exact ⟨A3, n3, c3, L3, f, rfl, rfl, by omega, HG3.out.1.held H2.out, by omega, HG3.out.2.2, H2.out⟩
      case rest =>
        obtain ⟨A, n, cap, L, f', rfl, rfl, hf', hL, hn, hok, hh⟩ := hcut
        have HE := Lib.hid fun (w' : World) (h : Held wc w') => Enc.encode_any A n cap L f' w' (hL.held h) (by omega) hok (by omega)
        have HR := Lib.hid fun (w' : World) (h : Held wc w') => Enc.encoder_any A n cap L f' w' (hL.held h) (by omega) hok (by omega)
        have HHc := Lib.hid hh
        have HLL := Lib.hid hL
        have HOK := Lib.hid hok
        obtain ⟨s, hs⟩ : ∃ s : ByteArray, (⟨(encode L f').1.toArray⟩ : ByteArray) = s := ⟨_, rfl⟩
        obtain ⟨c, hc⟩ : ∃ c, (encode L f').2 = c := ⟨_, rfl⟩
        unfold EncTo at HE HR
        rw [hs, hc] at HE HR
        have HS := Lib.hid hs
        have HC := Lib.hid hc
        clear hs hc hL hok hh HRC HSH H2 HG3
        go_wp2_with fail
        refine (HE.out _ (Held.refl _)).mono ?_
        rintro e w4 ⟨rfl, h4⟩
        go_wp2_with fail
        refine (HR.out _ h4).mono ?_
        rintro e w5 ⟨rfl, h5⟩
        have H5 := Lib.hid (h4.step h5)
        clear h4 h5 HE HR
        by_cases hc0 : c = 0
        · subst hc0
          have hls : (encode L f').1 = s.data.toList := by rw [← HS.out]
          have hen : encode L f' = (s.data.toList, 0) := by rw [← hls, ← HC.out]
          have hdec : decL s.data.toList f' = (L, 0) := Enc.decL_of ⟨HOK.out, hen⟩
          have hsz : s.size ≤ 65536 := by
            have h1 := (Enc.encode_ok hen).le
            rwa [Lgc.len_eq] at h1
          have HD := Lib.hid fun w => Enc.decode_any s f' (by omega) (by omega) w
          unfold DecTo at HD
          rw [hdec] at HD
          obtain ⟨nL, hnL⟩ : ∃ nL, L.length = nL := ⟨_, rfl⟩
          dsimp only at HD
          rw [hnL] at HD
          clear hls hen hdec hsz HS HC hnL
          go_wp2_with fail
          refine (HD.out _).mono ?_
          rintro e w6 ⟨A6, cap6, rfl, ho6, h6, _, hl6⟩
          have HSE := Lib.hid fun (w' : World) (h : Held w6 w') => same_any A6 A nL n cap6 cap L L w' ((Own.reads entC_len ho6).1.held h) (((HLL.out.held H5.out).held h6).held h) (by omega) (by omega)
          unfold SameTo at HSE
          have H6 := Lib.hid (H5.out.step h6)
          clear ho6 h6 HD
          go_wp2_with fail
          refine (HSE.out _ (Held.refl _)).mono ?_
          rintro e w7 ⟨q, rfl, hq, h7⟩
          obtain rfl : q = true := by simpa using hq
          clear hq HSE
          go_wp2_with fail
          refine (HAW.out _).mono ?_
          rintro e w8 ⟨rfl, h8⟩
          go_wp2
          go_ret
          exact ⟨rfl, HHc.out.step ((H6.out.step h7).step h8)⟩
        · go_wp2_with fail
          refine (HAW.out _).mono ?_
          rintro e w8 ⟨rfl, h8⟩
          go_wp2
          go_ret
          exact ⟨rfl, HHc.out.step (H5.out.step h8)⟩
  · have hb : (decide (n1 ≤ 40) && decide (n2 ≤ 30)) = false := by
      rw [Bool.and_eq_false_iff, decide_eq_false_iff_not, decide_eq_false_iff_not]
      omega
    have HF := Lib.hid fun w => few_any A1 A2 n1 n2 c1 c2 false hb.symm w
    clear g1 g2 g3 wk wh wa wf hfew hb
    go_enter Tryz.func4, Tryz.ntmps4
    go_wp2_with fail
    refine (HF.out _).mono ?_
    rintro e w1 ⟨rfl, h1⟩
    go_wp2_with fail
    refine (HAW.out _).mono ?_
    rintro e w3 ⟨rfl, h3⟩
    go_wp2
    go_ret
    exact ⟨rfl, h1.step h3⟩
end Lw
end Go.Proofs.YtdacgdokbfcgdaaGreat
