/-
  Contracts: ParseJournal, AppendJournal of the reference (chapter 42).
  Contracts: Recover of the reference (chapter 42).
  Contracts: CheckpointJournal of the reference (chapter 42).
  Contracts: light and awake of the law package (chapter 42).
-/
import Derived.Test.YtmmnanmegdflgaaZ20
import Derived.Test.YtmmnanmegdflgaaZ19
import Derived.Test.YtmmnanmegdflgaaZ18
set_option linter.unusedVariables false
set_option linter.unusedSimpArgs false
set_option maxRecDepth 100000
namespace Go.Proofs.Ytmmnanmegdflgaa
open Go.RowKit Go.Lib
namespace Jn
open Ad Lgc Strs Lg
theorem nBad_1 {l : List UInt8} (h : Uv.uvB l = false) : nBad l = true := by
  unfold nBad dataR; rw [numR_no (by rw [h]; rfl)]; simp [bytesR]
theorem nBad_2 {l : List UInt8} (h : Uv.uvB l = true) (hs : (l.drop (Uv.uvN l)).length < Uv.uvX l) : nBad l = true := by
  unfold nBad dataR; rw [numR_yes h]; simp only; rw [bytesR_no (by rw [List.length_drop] at hs; simp; omega)]
theorem nGood {l : List UInt8} (h : Uv.uvB l = true) (hs : Uv.uvX l ≤ (l.drop (Uv.uvN l)).length) : nS l = (l.drop (Uv.uvN l)).take (Uv.uvX l) ∧ nRest l = (l.drop (Uv.uvN l)).drop (Uv.uvX l) ∧ nBad l = false := by
  have : dataR l false = ((l.drop (Uv.uvN l)).take (Uv.uvX l), (l.drop (Uv.uvN l)).drop (Uv.uvX l), false) := by
    unfold dataR; rw [numR_yes h]; simp only; exact bytesR_yes (by omega)
  unfold nS nRest nBad; rw [this]; exact ⟨rfl, rfl, rfl⟩
theorem nOk_bad {l : List UInt8} (n : Nat) (h : nBad l = true) : nOk l n = false := by unfold nOk; rw [h]; rfl
theorem used_at {l : List UInt8} {pos : Nat} (h : (parse l).2 = l.drop pos) (hp : pos ≤ l.length) : used l = pos := by
  unfold used; rw [h, List.length_drop]; omega
set_option maxHeartbeats 2000000 in
theorem parse_ref_any (s : ByteArray) (hs : (s.size : Int) ≤ 1000000000) (w : World) : Calls Try.prog 24 #[.string s] w (ParseTo s.data.toList w) := by
  obtain ⟨l, hl⟩ : ∃ l, s.data.toList = l := ⟨_, rfl⟩
  have HS := Lib.hid hl
  obtain ⟨hsa, hsb⟩ : s.size ≤ l.length ∧ l.length ≤ s.size := by have := sz_of hl; omega
  rw [hl]
  clear hl
  go_enter Try.func24, Try.ntmps24
  go_wp2
  have M0 := Lib.hid ((Mem.start w).nilRow (e := 27) (s := 11) (f := manF))
  go_loopw [4, 5] (fun v i wr => ∃ (L : List Man) (pos : Nat), Par l L (l.drop pos) ∧ pos ≤ l.length ∧ i = .int .i64 pos ∧ Mem w wr [.row 27 11 manF w.heap.size v L]) (fun _ i _ => l.length - (intOf i).toNat)
  case atStart => exact ⟨[], 0, Par.start l, Nat.zero_le _, rfl, M0.out⟩
  case round =>
    clear M0
    obtain ⟨L, pos, hP, hpos, rfl, hM⟩ := hrel
    obtain ⟨A, cap, rfl, hcap, _⟩ := (hM.row 0 rfl).shape
    obtain ⟨rest, hr⟩ : ∃ rest, l.drop pos = rest := ⟨_, rfl⟩
    have hrl : rest.length = l.length - pos := by rw [← hr, List.length_drop]
    obtain ⟨hra, hrb⟩ : rest.length ≤ l.length - pos ∧ l.length - pos ≤ rest.length := by omega
    rw [hr] at hP
    have HR : Is (l.drop pos) rest := ⟨hr⟩
    have HP := Lib.hid hP
    have hle := hP.le
    have M := Lib.hid hM
    obtain ⟨n, hn⟩ : ∃ n, L.length = n := ⟨_, rfl⟩
    have HN := Lib.hid hn
    rw [hn] at hle M hcap ⊢
    clear hr hP hM hn hrl
    have HEND : ∀ wf, Held wr wf → Is (nOk rest n) false → Hid (ParseTo l w (.returned (.tuple #[.slice A n cap, .int .i64 pos])) wf) := fun wf h hn => by
      obtain ⟨s1, s2⟩ := HP.out.stop (by rw [HN.out]; exact hn.out)
      have M2 := M.out.keep h
      refine (⟨_, ?_, by rw [s1]; exact M2.row 0 rfl, M2.held⟩ : ParseTo l w _ wf)
      rw [used_at (s2.trans HR.out.symm) hpos]
    by_cases hlt : (pos : Int) < s.size
    · have hnn := Uv.uvN_le rest
      obtain ⟨nn, hnn'⟩ : ∃ nn, Uv.uvN rest = nn := ⟨_, rfl⟩
      have HNN := Lib.hid hnn'
      rw [hnn'] at hnn
      obtain ⟨xx, hxx⟩ : ∃ xx, Uv.uvX rest = xx := ⟨_, rfl⟩
      have HXX := Lib.hid hxx
      have hxl := Uv.uvX_lt rest
      rw [hxx] at hxl
      obtain ⟨bb, hbb⟩ : ∃ bb, Uv.uvB rest = bb := ⟨_, rfl⟩
      have HBB : Is (Uv.uvB rest) bb := ⟨hbb⟩
      obtain ⟨s1, hs1⟩ : ∃ s1 : ByteArray, s.extract pos s.size = s1 := ⟨_, rfl⟩
      have hl1 : s1.data.toList = rest := by rw [← hs1, ext_drop, HS.out, HR.out]
      have HS1x := Lib.hid hs1
      have HS1 := Lib.hid hl1
      obtain ⟨h1a, h1b⟩ : s1.size ≤ rest.length ∧ rest.length ≤ s1.size := by have := sz_of hl1; omega
      clear hnn' hxx hbb hs1 hl1
      cases bb
      · have hno : Is (nOk rest n) false := ⟨nOk_bad n (nBad_1 HBB.out)⟩
        go_wp2_with fail
        rw [HS1x.out]
        refine (uv_ref_any s1 (by omega) _).mono ?_; rintro e w' ⟨rfl, rfl⟩; rw [HS1.out, HBB.out, HNN.out, HXX.out]
        go_wp2
        go_ret2
        exact (HEND _ (Held.refl _) hno).out
      · by_cases hx : (s.size : Int) - pos - nn < (xx : Int)
        · have hno : Is (nOk rest n) false := ⟨nOk_bad n (nBad_2 HBB.out (by rw [HNN.out, HXX.out, List.length_drop]; omega))⟩
          go_wp2_with fail
          rw [HS1x.out]
          refine (uv_ref_any s1 (by omega) _).mono ?_; rintro e w' ⟨rfl, rfl⟩; rw [HS1.out, HBB.out, HNN.out, HXX.out]
          go_wp2
          go_ret2
          exact (HEND _ (Held.refl _) hno).out
        · obtain ⟨g1, g2, g3⟩ := nGood HBB.out (by rw [HNN.out, HXX.out, List.length_drop]; omega)
          rw [HNN.out, HXX.out] at g1 g2
          have hnp := Uv.uvN_pos rest HBB.out
          rw [HNN.out] at hnp
          have i3 : (pos : Int) + nn + xx ≤ s.size := by omega
          have HREST : Is (nRest rest) (l.drop (pos + nn + xx)) := ⟨by rw [g2, ← HR.out, List.drop_drop, List.drop_drop, ← Nat.add_assoc]⟩
          obtain ⟨s2, hs2⟩ : ∃ s2 : ByteArray, s.extract (pos + nn) (pos + nn + xx) = s2 := ⟨_, rfl⟩
          have HS2x := Lib.hid hs2
          have hl2 : s2.data.toList = nS rest := by rw [g1, ← hs2, ← HR.out]; simp [HS.out, List.extract_eq_take_drop, List.drop_drop]
          have HS2 := Lib.hid hl2
          have hz2 : s2.size ≤ 1000000000 := by rw [sz_of hl2, g1, List.length_take, List.length_drop]; omega
          have HI : Is (nOk rest n) (decide ((opens (nS rest)).2.2 = 0) && (decide ((opens (nS rest)).1 = n) && decOk (opens (nS rest)).2.1)) := ⟨by unfold nOk nIs; rw [g3]; rfl⟩
          have HMAN : Is (nMan rest) (decoded (opens (nS rest)).2.1) := ⟨rfl⟩
          have hol := opens_len (nS rest)
          rw [← hl2, len_eq] at hol
          have HOP := fun w => Lib.hid (open_ref_any s2 (by omega) w)
          simp only [hl2] at HOP
          have HDC := fun w => Lib.hid (decode_ref_any ⟨(opens (nS rest)).2.1.toArray⟩ (by rw [ba_size]; rw [← hl2]; omega) w)
          rw [hl2] at hol
          have HDY : decOk (opens (nS rest)).2.1 = true → Is (dec (opens (nS rest)).2.1) (decoded (opens (nS rest)).2.1) := fun h => ⟨by unfold dec; rw [if_pos h]⟩
          generalize opens (nS rest) = O at *
          obtain ⟨sq, bod, er⟩ := O
          dsimp only at HI HMAN HDC HOP HDY hol
          obtain ⟨D, hD⟩ : ∃ D, dec bod = D := ⟨_, rfl⟩
          have HD : Is (dec bod) D := ⟨hD⟩
          have HDC2 : ∀ w, Hid (Calls Try.prog 21 #[.string ⟨bod.toArray⟩] w fun e w' => e = .returned (.tuple #[.agg (manC D), .bool (decOk bod)]) ∧ Held w w') := fun w => by rw [← hD]; exact (HDC w).out
          clear hD HDC g1 g2 g3 hs2 hl2
          have hdx : decide ((s.size : Int) - pos - nn < (xx : Int)) = false := decide_eq_false hx
          go_wp2_with fail
          rw [HS1x.out]
          refine (uv_ref_any s1 (by omega) _).mono ?_; rintro e w' ⟨rfl, rfl⟩; rw [HS1.out, HBB.out, HNN.out, HXX.out]
          go_wp2_with fail
          rw [HS2x.out]
          (with_reducible refine (HOP _).out.mono ?_)
          rintro e w3 ⟨rfl, h3⟩
          dsimp only
          obtain ⟨k, nm, a, b', ⟨r, l', c, g⟩, ⟨m, cc, up⟩⟩ := D
          go_wp2_with fail
          (with_reducible refine (HDC2 _).out.mono ?_)
          rintro e w4 ⟨rfl, h4⟩
          dsimp only [manC]
          have M4 := Lib.hid ((M.out.keep (h3.step h4)).alloc #[.int .i64 k, .string nm, .int .i64 a, .int .i64 b', .int .i64 r, .int .i64 l', .int .i64 c, .int .i64 g, .int .i64 m, .int .i64 cc, .bool up] 27)
          have H4 := Lib.hid ((h3.step h4).alloc (.cells #[.int .i64 k, .string nm, .int .i64 a, .int .i64 b', .int .i64 r, .int .i64 l', .int .i64 c, .int .i64 g, .int .i64 m, .int .i64 cc, .bool up] 27))
          clear h3 h4 HOP HDC2 M
          by_cases he : er = 0
          · subst he
            have HDK : ∀ b, decOk bod = b → Is (decOk bod) b := fun b h => ⟨h⟩
            cases hdk : decOk bod
            · have hno : Is (nOk rest n) false := ⟨by rw [HI.out, hdk]; simp⟩
              clear HI HDY HDK hdk
              go_wp2
              go_ret2
              exact (HEND _ H4.out hno).out
            · have hDD := HDY hdk
              by_cases hq : sq = n
              · subst hq
                have hyes : Is (nOk rest sq) true := ⟨by rw [HI.out, hdk]; simp⟩
                have HX : Is (⟨k, nm, a, b', ⟨r, l', c, g⟩, ⟨m, cc, up⟩⟩ : Man) (nMan rest) := ⟨by rw [HMAN.out, ← hDD.out, HD.out]⟩
                have hP2 := HP.out.step (by rw [HN.out]; exact hyes.out)
                have HP2 := Lib.hid hP2
                have hle2 := hP2.le
                clear HI HDY HDK hdk hP2 HMAN hDD HEND
                go_wp2_with (at_builtin; refine Mem.wp_app (M4.out.skip _) 0 rfl rfl _ _ _ rfl _ 96 Try.underlying54 info_man rfl (by decide) manF_len manF_one ⟨k, nm, a, b', ⟨r, l', c, g⟩, ⟨m, cc, up⟩⟩ ⟨w4.heap.size + 1, 0, none⟩ 1 rfl rfl (cells_new _ (by simp) _ _) sq HN.out (by omega) (by decide) ?_; intro g4 cp4 w5 M5x; have M5 := Lib.hid M5x; clear M5x)
                go_roundw
                case rel =>
                  refine ⟨L ++ [nMan rest], pos + nn + xx, by rw [← HREST.out]; exact HP2.out, by omega, by go_num, ?_⟩
                  have h := M5.out; rw [HX.out] at h; exact h.take 1
                case measure => simp [intOf]; omega
              · have hno : Is (nOk rest n) false := ⟨by rw [HI.out]; simp [hq]⟩
                have hq1 : ((sq : Int) != (n : Int)) = true := by simp; omega
                have hq2 : ((sq : Int) == (n : Int)) = false := by simp; omega
                have hq3 : ¬ (sq : Int) = n := by omega
                clear HI HDY HDK hdk HMAN hDD hq
                go_wp2
                go_ret2
                exact (HEND _ H4.out hno).out
          · have hno : Is (nOk rest n) false := ⟨by rw [HI.out]; simp [he]⟩
            have hq1 : (er != 0) = true := by simp; exact he
            have hq2 : (er == 0) = false := by simp; exact he
            clear HI HDY HMAN
            go_wp2
            go_ret2
            exact (HEND _ H4.out hno).out
    · have hnil : rest = [] := List.eq_nil_of_length_eq_zero (by omega)
      have hno : Is (nOk rest n) false := ⟨by rw [hnil]; exact nOk_nil n⟩
      clear hnil
      go_wp2
      go_ret2
      exact (HEND _ (Held.refl _) hno).out
set_option maxHeartbeats 1000000 in
theorem append_ref_any (s : ByteArray) (hs : (s.size : Int) ≤ 1000000000) (k : Int) (nm : ByteArray) (a b r l c g m cc : Int) (up : Bool) (hnm : (nm.size : Int) ≤ 1000000000) (w : World) :
    Calls Try.prog 22 #[.string s, .agg #[.int .i64 k, .string nm, .int .i64 a, .int .i64 b, .int .i64 r, .int .i64 l, .int .i64 c, .int .i64 g, .int .i64 m, .int .i64 cc, .bool up]] w (AppTo s.data.toList ⟨k, nm, a, b, ⟨r, l, c, g⟩, ⟨m, cc, up⟩⟩ w) := by
  obtain ⟨j, hj⟩ : ∃ j, s.data.toList = j := ⟨_, rfl⟩
  have HS := Lib.hid hj
  obtain ⟨hsa, hsb⟩ : s.size ≤ j.length ∧ j.length ≤ s.size := by have := sz_of hj; omega
  have HP := fun w => Lib.hid (parse_ref_any s hs w)
  rw [hj] at HP ⊢
  clear hj
  have hpl := parse_len j 0
  have hno : Is (appOk j ⟨k, nm, a, b, ⟨r, l, c, g⟩, ⟨m, cc, up⟩⟩) false → Is (appd j ⟨k, nm, a, b, ⟨r, l, c, g⟩, ⟨m, cc, up⟩⟩) j := fun h => ⟨by unfold appd; rw [h.out]; rfl⟩
  obtain ⟨n, hn⟩ : ∃ n, (parse j).1.length = n := ⟨_, rfl⟩
  have hn2 : n ≤ j.length := by rw [← hn]; exact hpl
  have HN := Lib.hid hn
  have HA : Is (appRec j ⟨k, nm, a, b, ⟨r, l, c, g⟩, ⟨m, cc, up⟩⟩) (j ++ record n ⟨k, nm, a, b, ⟨r, l, c, g⟩, ⟨m, cc, up⟩⟩) := ⟨by unfold appRec; rw [hn]⟩
  have HK : Is (appOk j ⟨k, nm, a, b, ⟨r, l, c, g⟩, ⟨m, cc, up⟩⟩) (decide ((j ++ record n ⟨k, nm, a, b, ⟨r, l, c, g⟩, ⟨m, cc, up⟩⟩).length ≤ 8192)) := ⟨by unfold appOk; rw [HA.out]⟩
  have HY : Is (appOk j ⟨k, nm, a, b, ⟨r, l, c, g⟩, ⟨m, cc, up⟩⟩) true → Is (appd j ⟨k, nm, a, b, ⟨r, l, c, g⟩, ⟨m, cc, up⟩⟩) (j ++ record n ⟨k, nm, a, b, ⟨r, l, c, g⟩, ⟨m, cc, up⟩⟩) := fun h => ⟨by unfold appd; rw [h.out, if_pos rfl, HA.out]⟩
  have HE := fun w => Lib.hid (encode_ref_any k nm a b r l c g m cc up hnm w)
  have hel := enc_len2 ⟨k, nm, a, b, ⟨r, l, c, g⟩, ⟨m, cc, up⟩⟩ hnm
  have HR : Is (record n ⟨k, nm, a, b, ⟨r, l, c, g⟩, ⟨m, cc, up⟩⟩) (Uv.put (packed n (enc ⟨k, nm, a, b, ⟨r, l, c, g⟩, ⟨m, cc, up⟩⟩)).length ++ packed n (enc ⟨k, nm, a, b, ⟨r, l, c, g⟩, ⟨m, cc, up⟩⟩)) := ⟨rfl⟩
  have hpk : (packed n (enc ⟨k, nm, a, b, ⟨r, l, c, g⟩, ⟨m, cc, up⟩⟩)).length ≤ 1000000300 := by
    have := sealed_len n ⟨k, nm, a, b, ⟨r, l, c, g⟩, ⟨m, cc, up⟩⟩ (by omega) (by omega)
    unfold sealed at this; omega
  clear hn hpl HA
  generalize record n ⟨k, nm, a, b, ⟨r, l, c, g⟩, ⟨m, cc, up⟩⟩ = R at *
  generalize enc ⟨k, nm, a, b, ⟨r, l, c, g⟩, ⟨m, cc, up⟩⟩ = E at *
  have HPK : ∀ w, Hid (Calls Try.prog 53 #[.int .u64 n, .string ⟨E.toArray⟩] w (MakesS (packed n E) w)) := fun w => pack_ref_any n ⟨E.toArray⟩ (by omega) (by rw [ba_size]; omega) w
  generalize packed n E = K at *
  have hput := Uv.put_len K.length (by omega)
  have hk' : (K.length : Int) ≤ 18446744073709551615 := by omega
  have HPU := fun w => Lib.hid (put_ref_any K.length hk' w)
  have HRL : Is R.length ((Uv.put K.length).length + K.length) := ⟨by rw [HR.out, List.length_append]⟩
  have HL : Is ((j ++ R).length) (j.length + R.length) := ⟨List.length_append⟩
  go_enter Try.func22, Try.ntmps22
  go_wp2_with fail
  refine (HP _).out.mono ?_
  rintro e w1 ⟨v, rfl, ho, h1'⟩
  obtain ⟨A, cap, rfl, _, _⟩ := ho.shape
  rw [HN.out] at ho ⊢
  have HB := Lib.hid (Bx.held (box_new w (.cells #[.int .i64 k, .string nm, .int .i64 a, .int .i64 b, .int .i64 r, .int .i64 l, .int .i64 c, .int .i64 g, .int .i64 m, .int .i64 cc, .bool up] 27)) h1')
  have HH1 := Lib.hid (((Held.refl w).alloc _).step h1')
  clear ho h1' HP
  obtain ⟨⟨a0, a1, a2, a3, a4, a5, a6, a7, a8, a9, a10⟩, _⟩ := box11h HB.out
  go_wp2_with fail
  (with_reducible refine (HE _).out.mono ?_)
  rintro e w2 ⟨rfl, h2'⟩
  clear HB a0 a1 a2 a3 a4 a5 a6 a7 a8 a9 a10
  go_wp2_with fail
  (with_reducible refine (HPK _).out.mono ?_)
  rintro e w3 ⟨rfl, h3'⟩
  go_wp2_with fail
  (with_reducible refine (HPU _).out.mono ?_)
  rintro e w4 ⟨rfl, h4'⟩
  have HH4 := Lib.hid (((HH1.out.step h2').step h3').step h4')
  clear h2' h3' h4' HE HPK HPU
  have hfin : ∀ y : Bool, Is (appOk j ⟨k, nm, a, b, ⟨r, l, c, g⟩, ⟨m, cc, up⟩⟩) y → Hid (∀ q : ByteArray, q.data.toList = appd j ⟨k, nm, a, b, ⟨r, l, c, g⟩, ⟨m, cc, up⟩⟩ → AppTo j ⟨k, nm, a, b, ⟨r, l, c, g⟩, ⟨m, cc, up⟩⟩ w (.returned (.tuple #[.string q, .bool y])) w4) := fun y hb => (fun q hq => ⟨by rw [hb.out]; exact ret_app hq, HH4.out⟩ : ∀ q : ByteArray, _)
  by_cases h3 : (8192 : Int) < s.size
  · have hk : Is (appOk j ⟨k, nm, a, b, ⟨r, l, c, g⟩, ⟨m, cc, up⟩⟩) false := ⟨by rw [HK.out, HL.out]; exact decide_eq_false (by omega)⟩
    have hk2 := hno hk
    have hf := hfin false hk
    clear HK HY hno hfin
    go_wp2
    go_ret2
    exact hf.out _ (by rw [hk2.out]; exact HS.out)
  by_cases h4 : (8192 : Int) - s.size < (((Uv.put K.length).length : Nat) : Int) + K.length
  · have hk : Is (appOk j ⟨k, nm, a, b, ⟨r, l, c, g⟩, ⟨m, cc, up⟩⟩) false := ⟨by rw [HK.out, HL.out, HRL.out]; exact decide_eq_false (by omega)⟩
    have hk2 := hno hk
    have hf := hfin false hk
    clear HK HY hno hfin
    go_wp2
    go_ret2
    exact hf.out _ (by rw [hk2.out]; exact HS.out)
  · have hk : Is (appOk j ⟨k, nm, a, b, ⟨r, l, c, g⟩, ⟨m, cc, up⟩⟩) true := ⟨by rw [HK.out, HL.out, HRL.out]; exact decide_eq_true (by omega)⟩
    have hk2 := HY hk
    have hf := hfin true hk
    clear HK HY hno hfin
    go_wp2
    go_ret2
    exact hf.out _ (by rw [hk2.out, ← HS.out, HR.out]; simp)
end Jn
end Go.Proofs.Ytmmnanmegdflgaa

set_option linter.unusedVariables false
set_option linter.unusedSimpArgs false
set_option maxRecDepth 100000
namespace Go.Proofs.Ytmmnanmegdflgaa
open Go.RowKit Go.BigFrame Go.Sort
namespace Jn
open Ad Adm Law39 Lg
set_option maxHeartbeats 4000000 in
theorem recover_ref_any (s : ByteArray) (hs : (s.size : Int) ≤ 1000000000) (w : World) : Calls Try.prog 25 #[.string s] w (RecTo s.data.toList w) := by
  obtain ⟨l, hl⟩ : ∃ l, s.data.toList = l := ⟨_, rfl⟩
  have HS := Lib.hid hl
  have hsl := sz_of hl
  obtain ⟨u, hu⟩ : ∃ u, used l = u := ⟨_, rfl⟩
  have HU := Lib.hid hu
  have hul := used_le l
  rw [hu] at hul
  obtain ⟨L, hL⟩ : ∃ L, (parse l).1 = L := ⟨_, rfl⟩
  have HL := Lib.hid hL
  have hnm := parse_nm l
  rw [hL] at hnm
  have HNM := Lib.hid hnm
  have HP := Lib.hid fun w' => parse_ref_any s hs w'
  unfold ParseTo at HP
  rw [hl, hu, hL] at HP
  rw [hl]
  clear hl hu hL hnm
  have M0 := Lib.hid ((Mem.start w).alloc' (b := w.heap.size) rfl #[.slice none 0 0, .slice none 0 0] 37)
  go_enter Try.func25, Try.ntmps25
  go_wp2_with fail
  refine (HP.out _).mono ?_
  rintro e w1 ⟨v, rfl, o1, h1⟩
  obtain ⟨A, cap, rfl, hcap, _⟩ := o1.shape
  obtain ⟨n, hn⟩ : ∃ n, L.length = n := ⟨_, rfl⟩
  have HN := Lib.hid hn
  have M1 := Lib.hid (M0.out.own h1 o1)
  rw [hn] at hcap M1 ⊢
  have hnl : (n : Int) ≤ s.size := by
    have := parse_len l 0
    have e : (parseN 0 l).1 = L := HL.out
    rw [e, hn] at this
    omega
  clear hn M0 o1 h1 HP
  have M2 := Lib.hid (M1.out.alloc' (b := w1.heap.size) rfl #[.slice none 0 0, .slice none 0 0] 37)
  clear M1
  obtain ⟨b6, hb6⟩ : ∃ b6, w1.heap.size = b6 := ⟨_, rfl⟩
  go_wp2
  rw [hb6] at M2
  clear hb6
  go_loopw [7] (fun i wr => ∃ (k : Nat) (A1 : Option Addr) (n1 c1 : Nat) (A2 : Option Addr) (n2 c2 : Nat), i = .int .i64 k ∧ k ≤ n ∧ Mem w wr [.box w.heap.size #[.slice none 0 0, .slice none 0 0] 37, .row 27 11 manF w.heap.size (.slice A n cap) L, .box b6 #[.slice A1 n1 c1, .slice A2 n2 c2] 37] ∧ On1 wr A1 n1 c1 A2 n2 c2 (recov (L.take k))) (fun i _ => n - (intOf i).toNat)
  case atStart => exact ⟨0, none, 0, 0, none, 0, 0, rfl, Nat.zero_le _, M2.out, on1_zero _⟩
  case round =>
    obtain ⟨k, A1, n1, c1, A2, n2, c2, rfl, hk, hM, hO⟩ := hrel
    have M3 := Lib.hid hM
    have HO := Lib.hid hO
    obtain ⟨hn1, hn2⟩ := hO.hn
    clear hM hO M2
    obtain ⟨⟨d0, d1⟩, ⟨df0, df1⟩, dlt⟩ := M3.out.box2 2 rfl
    by_cases hlt : (k : Int) < n
    · obtain ⟨g, x, rfl, hg0, hg1, hx, hc⟩ := M3.out.slot 1 rfl manF_len (by decide) (k := k) (by rw [HN.out]; omega)
      obtain ⟨xk, xnm, xa, xb, ⟨xr, xl, xc, xg⟩, ⟨xm, xcc, xup⟩⟩ := x
      have hxn : (xnm.size : Int) ≤ 1000000000 := by
        have := HNM.out _ (List.mem_of_getElem? hx)
        simp only at this
        omega
      have HX := Lib.hid hx
      have x0 : wr.cell? ⟨g, k * 11 + 0, none⟩ = some (.int .i64 xk) := (hc 0 (by decide)).2 _ rfl
      have x1 : wr.cell? ⟨g, k * 11 + 1, none⟩ = some (.string xnm) := (hc 1 (by decide)).2 _ rfl
      have x2 : wr.cell? ⟨g, k * 11 + 2, none⟩ = some (.int .i64 xa) := (hc 2 (by decide)).2 _ rfl
      have x3 : wr.cell? ⟨g, k * 11 + 3, none⟩ = some (.int .i64 xb) := (hc 3 (by decide)).2 _ rfl
      have x4 : wr.cell? ⟨g, k * 11 + 4, none⟩ = some (.int .i64 xr) := (hc 4 (by decide)).2 _ rfl
      have x5 : wr.cell? ⟨g, k * 11 + 5, none⟩ = some (.int .i64 xl) := (hc 5 (by decide)).2 _ rfl
      have x6 : wr.cell? ⟨g, k * 11 + 6, none⟩ = some (.int .i64 xc) := (hc 6 (by decide)).2 _ rfl
      have x7 : wr.cell? ⟨g, k * 11 + 7, none⟩ = some (.int .i64 xg) := (hc 7 (by decide)).2 _ rfl
      have x8 : wr.cell? ⟨g, k * 11 + 8, none⟩ = some (.int .i64 xm) := (hc 8 (by decide)).2 _ rfl
      have x9 : wr.cell? ⟨g, k * 11 + 9, none⟩ = some (.int .i64 xcc) := (hc 9 (by decide)).2 _ rfl
      have x10 : wr.cell? ⟨g, k * 11 + 10, none⟩ = some (.bool xup) := (hc 10 (by decide)).2 _ rfl
      rw [Nat.add_zero] at x0
      clear hx hc
      have k0 : ¬ (k : Int) < 0 := by omega
      obtain ⟨r', er, hap⟩ : ∃ r' er, apply (recov (L.take k)) ⟨xk, xnm, xa, xb, ⟨xr, xl, xc, xg⟩, ⟨xm, xcc, xup⟩⟩ = (r', er) := ⟨_, _, rfl⟩
      have hvr : VR r' := by
        have := vr_apply ⟨xk, xnm, xa, xb, ⟨xr, xl, xc, xg⟩, ⟨xm, xcc, xup⟩⟩ (vr_recov (L.take k))
        rw [hap] at this
        exact this
      have HVR := Lib.hid hvr
      have HAP := Lib.hid hap
      clear hap hvr
      have HC := Lib.hid (fun w' (q : Held wr w') => And.intro (q.cell d0) (And.intro (q.cell d1) (And.intro (q.cell x0) (And.intro (q.cell x1) (And.intro (q.cell x2) (And.intro (q.cell x3) (And.intro (q.cell x4) (And.intro (q.cell x5) (And.intro (q.cell x6) (And.intro (q.cell x7) (And.intro (q.cell x8) (And.intro (q.cell x9) (q.cell x10)))))))))))))
      go_wp2
      have MB0 := Lib.hid ((M3.out.alloc' (b := wr.heap.size) rfl #[.slice none 0 0, .slice none 0 0] 37).drew)
      go_cut [8, 9] from 21 to 29 (fun v8 v9 wx => ∃ b8 B1 m1 e1 B2 m2 e2, v8 = .pointer (some ⟨b8, 0, none⟩) ∧ v9 = .int .i64 er ∧ Mem w wx [.box w.heap.size #[.slice none 0 0, .slice none 0 0] 37, .row 27 11 manF w.heap.size (.slice (some ⟨g, 0, none⟩) n cap) L, .box b6 #[.slice A1 n1 c1, .slice A2 n2 c2] 37, .box b8 #[.slice B1 m1 e1, .slice B2 m2 e2] 37] ∧ Caps B1 m1 e1 B2 m2 e2 ∧ RegR wx B1 m1 B2 m2 r' ∧ RegR wx A1 n1 A2 n2 (recov (L.take k)))
      case first =>
        go_region_held3 (fun w' => w'.cell? ⟨b6, 0, none⟩ = some (.slice A1 n1 c1) ∧ w'.cell? ⟨b6, 1, none⟩ = some (.slice A2 n2 c2) ∧ w'.cell? ⟨g, k * 11, none⟩ = some (.int .i64 xk) ∧ w'.cell? ⟨g, k * 11 + 1, none⟩ = some (.string xnm) ∧ w'.cell? ⟨g, k * 11 + 2, none⟩ = some (.int .i64 xa) ∧ w'.cell? ⟨g, k * 11 + 3, none⟩ = some (.int .i64 xb) ∧ w'.cell? ⟨g, k * 11 + 4, none⟩ = some (.int .i64 xr) ∧ w'.cell? ⟨g, k * 11 + 5, none⟩ = some (.int .i64 xl) ∧ w'.cell? ⟨g, k * 11 + 6, none⟩ = some (.int .i64 xc) ∧ w'.cell? ⟨g, k * 11 + 7, none⟩ = some (.int .i64 xg) ∧ w'.cell? ⟨g, k * 11 + 8, none⟩ = some (.int .i64 xm) ∧ w'.cell? ⟨g, k * 11 + 9, none⟩ = some (.int .i64 xcc) ∧ w'.cell? ⟨g, k * 11 + 10, none⟩ = some (.bool xup))
          (first | exact HC.out _ (Held.refl _).drew | exact HC.out _ ((Held.refl wr).alloc _).drew | exact Hid.out (by assumption))
          (first
            | (go_at_call 14; refine (manage_ref_any A1 n1 c1 A2 n2 c2 (recov (L.take k)) xk xnm xa xb xr xl xc xg xm xcc xup _ (HO.out.reg.held (Held.refl _).drew) HO.out.c hn1 hn2 HO.out.nm hxn).mono ?_; rintro e w5 ⟨B1, m1, e1, B2, m2, e2, rfl, h5, hR, hcp⟩; rw [HAP.out] at hR ⊢; simp only at hR ⊢; have HB := Lib.hid hcp; have kz := Lib.hid (HC.out w5 ((Held.refl wr).drew.step h5)); have ky := Lib.hid (HC.out (w5.alloc (.cells #[.slice B1 m1 e1, .slice B2 m2 e2] 37)) (((Held.refl wr).drew.step h5).alloc _)); have kx := Lib.hid (HC.out (w5.alloc (.cells #[.slice none 0 0, .slice none 0 0] 37)) (((Held.refl wr).drew.step h5).alloc _)); have MX := Lib.hid ((M3.out.drew.keep h5).alloc #[.slice B1 m1 e1, .slice B2 m2 e2] 37); have HRX := Lib.hid (hR.held ((Held.refl w5).alloc (.cells #[.slice B1 m1 e1, .slice B2 m2 e2] 37))); have HOX := Lib.hid (HO.out.reg.held (((Held.refl wr).drew.step h5).alloc (.cells #[.slice B1 m1 e1, .slice B2 m2 e2] 37))))
            | (go_at_call 14; refine (manage_ref_any A1 n1 c1 A2 n2 c2 (recov (L.take k)) xk xnm xa xb xr xl xc xg xm xcc xup _ (HO.out.reg.held ((Held.refl wr).alloc _).drew) HO.out.c hn1 hn2 HO.out.nm hxn).mono ?_; rintro e w5 ⟨B1, m1, e1, B2, m2, e2, rfl, h5, hR, hcp⟩; rw [HAP.out] at hR ⊢; simp only at hR ⊢; have HB := Lib.hid hcp; have kz := Lib.hid (HC.out w5 (((Held.refl wr).alloc _).drew.step h5)); have M5 := MB0.out.keep h5; obtain ⟨⟨z0, z1⟩, ⟨zf0, zf1⟩, zlt⟩ := M5.box2 3 rfl; have M6 := M5.put 3 rfl 0 (.slice B1 m1 e1); have MX := Lib.hid (M6.put 3 rfl 1 (.slice B2 m2 e2)); have HRX := Lib.hid ((hR.putSlice z0 (.slice B1 m1 e1)).putSlice (M6.cell 3 rfl 1 rfl) (.slice B2 m2 e2)); have HOX := Lib.hid (((HO.out.reg.held (((Held.refl wr).alloc _).drew.step h5)).putSlice z0 (.slice B1 m1 e1)).putSlice (M6.cell 3 rfl 1 rfl) (.slice B2 m2 e2)); have ky := Lib.hid (HC.out _ (((((Held.refl wr).alloc _).drew.step h5).set (p := ⟨wr.heap.size, 0, none⟩) (Nat.le_refl _) (.slice B1 m1 e1)).set (p := ⟨wr.heap.size, 1, none⟩) (Nat.le_refl _) (.slice B2 m2 e2)))))
        all_goals
          go_wp2
          go_meet
          case rel => exact ⟨_, B1, m1, e1, B2, m2, e2, rfl, rfl, MX.out, HB.out, HRX.out, HOX.out⟩
      case rest =>
        obtain ⟨b8, B1, m1, e1, B2, m2, e2, rfl, rfl, hM, hcp, hR, hO⟩ := hcut
        have M6 := Lib.hid hM
        have HR6 := Lib.hid hR
        have HO6 := Lib.hid hO
        have HCP := Lib.hid hcp
        clear hM hR hO hcp MB0 HC d0 d1 df0 df1 dlt x0 x1 x2 x3 x4 x5 x6 x7 x8 x9 x10
        obtain ⟨⟨d0, d1⟩, ⟨df0, df1⟩, dlt⟩ := M6.out.box2 2 rfl
        obtain ⟨⟨e0, e1'⟩, ⟨ef0, ef1⟩, elt⟩ := M6.out.box2 3 rfl
        clear M3
        by_cases he : er = 0
        · subst he
          have HRO : Is (recov (L.take (k + 1))) r' := ⟨run_ok HX.out HAP.out⟩
          go_wp2
          have M7 := M6.out.put 2 rfl 0 (.slice B1 m1 e1)
          have HR7 := HR6.out.putSlice d0 (.slice B1 m1 e1)
          have M8 := M7.put 2 rfl 1 (.slice B2 m2 e2)
          have HR8 := HR7.putSlice (M7.cell 2 rfl 1 rfl) (.slice B2 m2 e2)
          go_roundw
          case rel => exact ⟨k + 1, B1, m1, e1, B2, m2, e2, by go_num, by omega, M8.take 3, by rw [HRO.out]; exact ⟨HR8, HCP.out, HVR.out⟩⟩
          case measure => (simp [intOf]) <;> omega
        · have heb : (er == 0) = false := by simp [he]
          have HRO : Is (recov (L.take (k + 1))) (recov (L.take k)) := ⟨run_err HX.out HAP.out he⟩
          clear he
          go_wp2
          go_roundw
          case rel => exact ⟨k + 1, A1, n1, c1, A2, n2, c2, by go_num, by omega, M6.out.take 3, by rw [HRO.out]; exact ⟨HO6.out, HO.out.c, HO.out.v⟩⟩
          case measure => (simp [intOf]) <;> omega
    · have hkn : k = n := by omega
      have HLT : Is (L.take k) L := ⟨List.take_of_length_le (by rw [HN.out]; omega)⟩
      clear hkn
      obtain ⟨⟨e0, e1⟩, ⟨ef0, ef1⟩, elt⟩ := M3.out.box2 0 rfl
      have hus : (u : Int) ≤ s.size := by omega
      have hu0 : ¬ (u : Int) < 0 := by omega
      go_wp2
      go_region
      go_wp2
      have MF1 := M3.out.put 0 rfl 0 (.slice A1 n1 c1)
      have HF1 := HO.out.reg.putSlice (M3.out.cell 0 rfl 0 rfl) (.slice A1 n1 c1)
      have MF := (MF1.put 0 rfl 1 (.slice A2 n2 c2)).drew
      have HF := (HF1.putSlice (MF1.cell 0 rfl 1 rfl) (.slice A2 n2 c2)).held (Held.refl _).drew
      refine bodyPost_ret (Bx.res_ct Try.results25 rfl (reg_load (MF.blk 0 rfl))) rfl ⟨A1, n1, c1, A2, n2, c2, ?_, MF.held, ?_, HO.out.c⟩
      · rw [HU.out, ← str_take HS.out]; rfl
      · rw [HL.out, ← HLT.out]; exact HF
end Jn
end Go.Proofs.Ytmmnanmegdflgaa

set_option linter.unusedVariables false
set_option linter.unusedSimpArgs false
set_option maxRecDepth 100000
namespace Go.Proofs.Ytmmnanmegdflgaa
open Go.RowKit Go.BigFrame Go.Sort Go.Lib
namespace Jn
open Ad Adm Law39 Lg Lgc Strs
/-- So far have the hosts been read. -/
structure Rk1 (H : List Cap) (k : Nat) (U : List Man) : Prop where
  u : U = upOps 0 (H.take k)
  un : U.length = k
theorem Rk1.step {H : List Cap} {k : Nat} {U : List Man} {m c : Int} {up : Bool} (h : Rk1 H k U) (hc : H[k]? = some ⟨m, c, up⟩) : Rk1 H (k + 1) (U ++ [hOp k ⟨m, c, true⟩]) :=
  ⟨by rw [upOps_at hc, h.u]; rfl, by rw [List.length_append, h.un]; rfl⟩
/-- The hosts once more: those that are down. -/
structure Rk3 (r : Reg) (k n : Nat) (L : List Man) : Prop where
  u : L = upG r ++ dnOps 0 (r.hs.take k)
  ln : L.length = n
  le : n ≤ (upG r).length + k
theorem Rk3.start {r : Reg} {L : List Man} {n : Nat} (h : L = upG r) (hn : L.length = n) : Rk3 r 0 n L := ⟨by rw [h]; exact (List.append_nil _).symm, hn, by rw [← hn, h]; exact Nat.le_refl _⟩
theorem Rk3.up {r : Reg} {k n : Nat} {L : List Man} {m c : Int} (h : Rk3 r k n L) (hc : r.hs[k]? = some ⟨m, c, true⟩) : Rk3 r (k + 1) n L :=
  ⟨by rw [dn_up hc rfl]; exact h.u, h.ln, by have := h.le; omega⟩
theorem Rk3.down {r : Reg} {k n : Nat} {L : List Man} {m c : Int} (h : Rk3 r k n L) (hc : r.hs[k]? = some ⟨m, c, false⟩) : Rk3 r (k + 1) (n + 1) (L ++ [hOp k ⟨m, c, false⟩]) :=
  ⟨by rw [dn_dn hc rfl, h.u, List.append_assoc], by rw [List.length_append, h.ln]; rfl, by have := h.le; omega⟩
theorem upG_len (r : Reg) : (upG r).length = r.hs.length + r.gs.length := by unfold upG; rw [List.length_append, upOps_len, List.length_map]
theorem app_rec {O : List Man} {m : Nat} {o : Man} (hO : ∀ o ∈ O, Sml o) (hl : O.length ≤ 20) (ho : O[m]? = some o) : appOk (recs 0 (O.take m)) o = true ∧ appd (recs 0 (O.take m)) o = recs 0 (O.take (m + 1)) := by
  have hm := (List.getElem?_eq_some_iff.1 ho).1
  have h1 := (parse_all (L := O.take m) (fun x hx => (hO x (List.mem_of_mem_take hx)).fit) (by rw [List.length_take]; omega)).1
  have h2 : appRec (recs 0 (O.take m)) o = recs 0 (O.take (m + 1)) := by
    unfold appRec
    rw [h1, recs_take ho, List.length_take, Nat.min_eq_left (by omega)]
  have h3 : appOk (recs 0 (O.take m)) o = true := by
    unfold appOk
    rw [h2]
    have h4 := recs_mono O (m + 1)
    have h5 := sml_recs O 0 (by omega) hO
    exact decide_eq_true (by omega)
  exact ⟨h3, by unfold appd; rw [if_pos h3, h2]⟩
set_option maxHeartbeats 8000000 in
theorem checkpoint_ref_any (HA : Option Addr) (hn hc : Nat) (GA : Option Addr) (gn gc : Nat) (r : Reg) (w : World) (h : RegR w HA hn GA gn r) (hhn : (hn : Int) ≤ 1000000) (hgn : (gn : Int) ≤ 1000000) (hnm : ∀ p ∈ r.gs, (p.nm.size : Int) ≤ 1000000000) (hg : Grp r) :
    Calls Try.prog 27 #[.agg #[.slice HA hn hc, .slice GA gn gc]] w (ChkTo r w) := by
  have M0 := Lib.hid ((Mem.start w).alloc' (b := w.heap.size) rfl #[.slice HA hn hc, .slice GA gn gc] 37)
  have HR := Lib.hid h
  have hval := valid_ref_any HA hn hc GA gn gc r.hs r.gs _ (h.held M0.out.held).hs (h.held M0.out.held).gs hhn hgn hnm
  obtain ⟨v, hv⟩ : ∃ v, validR ⟨r.hs, r.gs⟩ = v := ⟨_, rfl⟩
  have HVR : Is (validR r) v := ⟨hv⟩
  rw [hv] at hval
  have HVAL := Lib.hid hval
  clear hval hv hnm
  obtain ⟨⟨a0, a1⟩, ⟨af0, af1⟩, alt⟩ := M0.out.box2 0 rfl
  cases v
  · go_enter Try.func27, Try.ntmps27
    go_wp2_with fail
    refine HVAL.out.mono ?_
    rintro e w1 ⟨rfl, h1⟩
    go_wp2
    go_ret2
    exact ChkTo.no (chk_bad HVR.out) (M0.out.keep h1).held
  have HV := Lib.hid (vr_of HVR.out)
  have hl6 : (hn : Int) ≤ 6 := by have := HV.out.hl; have := h.hs.1; omega
  have gl8 : (gn : Int) ≤ 8 := by have := HV.out.gl; have := h.gs.1; omega
  have HG := Lib.hid hg
  have HHL : Is r.hs.length hn := ⟨h.hs.1⟩
  have HGL : Is r.gs.length gn := ⟨h.gs.1⟩
  clear h hg
  go_enter Try.func27, Try.ntmps27
  go_wp2_with fail
  refine HVAL.out.mono ?_
  rintro e w1 ⟨rfl, h1⟩
  have M1 := Lib.hid ((M0.out.keep h1).nilRow (e := 27) (s := 11) (f := manF))
  clear M0 h1 HVAL a0 a1 af0 af1 alt
  obtain ⟨⟨a0, a1⟩, ⟨af0, af1⟩, alt⟩ := M1.out.box2 0 rfl
  go_wp2
  go_loopw [4, 5] (fun v4 i wr => ∃ (k : Nat) (U : List Man), i = .int .i64 k ∧ k ≤ hn ∧ Rk1 r.hs k U ∧ Mem w wr [.box w.heap.size #[.slice HA hn hc, .slice GA gn gc] 37, .row 27 11 manF w.heap.size (v4) (U)]) (fun _ i _ => hn - (intOf i).toNat)
  case atStart => exact ⟨0, [], rfl, Nat.zero_le _, ⟨rfl, rfl⟩, M1.out⟩
  case round =>
    obtain ⟨k, U, rfl, hk, hC, hM⟩ := hrel
    obtain ⟨wA, rfl⟩ : ∃ wA : World, wA = wr := ⟨_, rfl⟩
    obtain ⟨A4, cp4, rfl, hcp4, _⟩ := (hM.row 1 rfl).shape
    rw [hC.un] at hcp4 hM ⊢
    have M2 := Lib.hid hM
    have HC := Lib.hid hC
    clear hM hC M1 a0 a1 af0 af1 alt
    obtain ⟨⟨a0, a1⟩, ⟨af0, af1⟩, alt⟩ := M2.out.box2 0 rfl
    by_cases hlt : (k : Int) < hn
    · obtain ⟨b, off, m, c, up, rfl, lb, hx, x0, x1, x2⟩ := capAt HR.out.hs M2.out.held (k := k) (by omega)
      have HC2 := Lib.hid (HC.out.step hx)
      have k0 : ¬ (k : Int) < 0 := by omega
      have M3 := Lib.hid (M2.out.alloc' (b := wA.heap.size) rfl #[.int .i64 m, .int .i64 c, .bool true] 25)
      clear hx
      go_wp2_with (at_builtin; refine Mem.wp_app (M3.out.skip _) 1 rfl rfl _ _ _ rfl _ 96 Try.underlying54 info_man rfl (by decide) manF_len manF_one (hOp k ⟨m, c, true⟩) ⟨wA.heap.size + 1, 0, none⟩ 1 rfl rfl (cells_new _ (by simp) _ _) k HC.out.un (by omega) (by decide) ?_; intro gg cpp w4 M4h; have M4 := Lib.hid M4h; clear M4h)
      clear a0 a1 af0 af1 alt
      go_roundw
      case rel => exact ⟨k + 1, _, by go_num, by omega, HC2.out, M4.out.take 2⟩
      case measure => (simp [intOf]) <;> omega
    · obtain rfl : hn = k := by omega
      have HU : Is U (upOps 0 r.hs) := ⟨by have := HC.out.u; rwa [List.take_of_length_le (by rw [HHL.out]; omega)] at this⟩
      have HC0 : Hid (Ck2 r hn 0 U) := Lib.hid ⟨by rw [HU.out]; simp, HC.out.un⟩
      go_wp2
      clear a0 a1 af0 af1 alt
      go_loopw [4, 7] (fun v4 i wr => ∃ (j : Nat) (L : List Man), i = .int .i64 j ∧ j ≤ gn ∧ Ck2 r hn j L ∧ Mem w wr [.box w.heap.size #[.slice HA hn hc, .slice GA gn gc] 37, .row 27 11 manF w.heap.size (v4) (L)]) (fun _ i _ => gn - (intOf i).toNat)
      case atStart => exact ⟨0, U, rfl, Nat.zero_le _, HC0.out, M2.out⟩
      case round =>
        obtain ⟨j, L, rfl, hj, hC, hM⟩ := hrel
        obtain ⟨wB, rfl⟩ : ∃ wB : World, wB = wr := ⟨_, rfl⟩
        obtain ⟨A4, cp4, rfl, hcp4, _⟩ := (hM.row 1 rfl).shape
        rw [hC.un] at hcp4 hM ⊢
        have M2 := Lib.hid hM
        have HC2 := Lib.hid hC
        clear hM hC HC HC0
        obtain ⟨⟨a0, a1⟩, ⟨af0, af1⟩, alt⟩ := M2.out.box2 0 rfl
        by_cases hlt2 : (j : Int) < gn
        · obtain ⟨b, off, nm, dr, dl, dc, dg, pa, pb, rfl, lb, hx, x0, x1, x2, x3, x4, x5, x6⟩ := plAt HR.out.gs M2.out.held (k := j) (by omega)
          have HC3 := Lib.hid (HC2.out.step hx)
          have k0 : ¬ (j : Int) < 0 := by omega
          have M3 := Lib.hid (M2.out.alloc' (b := wB.heap.size) rfl #[.string nm, .int .i64 dr, .int .i64 dl, .int .i64 dc, .int .i64 dg, .int .i64 pa, .int .i64 pb] 75)
          clear hx
          go_wp2_with (at_builtin; refine Mem.wp_app (M3.out.skip _) 1 rfl rfl _ _ _ rfl _ 96 Try.underlying54 info_man rfl (by decide) manF_len manF_one (gOp ⟨nm, ⟨dr, dl, dc, dg⟩, pa, pb⟩) ⟨wB.heap.size + 1, 0, none⟩ 1 rfl rfl (cells_new _ (by simp) _ _) (hn + j) HC2.out.un (by omega) (by decide) ?_; intro gg cpp w4 M4h; have M4 := Lib.hid M4h; clear M4h)
          clear a0 a1 af0 af1 alt
          go_roundw
          case rel => exact ⟨j + 1, _, by go_num, by omega, HC3.out, M4.out.take 2⟩
          case measure => (simp [intOf]) <;> omega
        · obtain rfl : gn = j := by omega
          have HL : Is L (upG r) := ⟨by have := HC2.out.u; rwa [List.take_of_length_le (by rw [HGL.out]; omega)] at this⟩
          have HUL : Is (upG r).length (hn + gn) := ⟨by rw [← HL.out]; exact HC2.out.un⟩
          obtain ⟨n3, hn3⟩ : ∃ n3, hn + gn = n3 := ⟨_, rfl⟩
          have HN3 : Is (hn + gn) n3 := ⟨hn3⟩
          rw [hn3] at M2 ⊢
          have HR0 := Lib.hid (Rk3.start HL.out (n := n3) (by rw [HC2.out.un]; exact hn3))
          have hn14 : (n3 : Int) ≤ 14 := by omega
          clear hn3 HC2
          go_wp2
          clear a0 a1 af0 af1 alt hcp4
          go_loopw [4, 9] (fun v4 i wr => ∃ (k n9 : Nat) (L : List Man), i = .int .i64 k ∧ k ≤ hn ∧ Rk3 r k n9 L ∧ Mem w wr [.box w.heap.size #[.slice HA hn hc, .slice GA gn gc] 37, .row 27 11 manF w.heap.size (v4) (L)]) (fun _ i _ => hn - (intOf i).toNat)
          case atStart => exact ⟨0, n3, L, rfl, Nat.zero_le _, HR0.out, M2.out⟩
          case round =>
            obtain ⟨k, n9, L9, rfl, hk, hC, hM⟩ := hrel
            obtain ⟨wC, rfl⟩ : ∃ wC : World, wC = wr := ⟨_, rfl⟩
            obtain ⟨A4, cp4, rfl, hcp4, _⟩ := (hM.row 1 rfl).shape
            rw [hC.ln] at hcp4 hM ⊢
            have hn9 : (n9 : Int) ≤ 20 := by have := hC.le; rw [HUL.out] at this; have := HN3.out; omega
            clear M2
            have M2 := Lib.hid hM
            have HC4 := Lib.hid hC
            clear hM hC HR0
            obtain ⟨⟨a0, a1⟩, ⟨af0, af1⟩, alt⟩ := M2.out.box2 0 rfl
            by_cases hlt3 : (k : Int) < hn
            · obtain ⟨b, off, m, c, up, rfl, lb, hx, x0, x1, x2⟩ := capAt HR.out.hs M2.out.held (k := k) (by omega)
              have k0 : ¬ (k : Int) < 0 := by omega
              have HX := Lib.hid hx
              clear hx
              cases up
              · have HC5 := Lib.hid (HC4.out.down HX.out)
                go_wp2_with (at_builtin; refine Mem.wp_app (M2.out.skip _) 1 rfl rfl _ _ _ rfl _ 96 Try.underlying54 info_man rfl (by decide) manF_len manF_one (hOp k ⟨m, c, false⟩) ⟨wC.heap.size, 0, none⟩ 1 rfl rfl (cells_new _ (by simp) _ _) n9 HC4.out.ln (by omega) (by decide) ?_; intro gg cpp w4 M4h; have M4 := Lib.hid M4h; clear M4h)
                clear a0 a1 af0 af1 alt
                go_roundw
                case rel => exact ⟨k + 1, n9 + 1, _, by go_num, by omega, HC5.out, M4.out.take 2⟩
                case measure => (simp [intOf]) <;> omega
              · have HC5 := Lib.hid (HC4.out.up HX.out)
                go_wp2
                clear a0 a1 af0 af1 alt
                go_roundw
                case rel => exact ⟨k + 1, n9, _, by go_num, by omega, HC5.out, M2.out⟩
                case measure => (simp [intOf]) <;> omega
            · have hkn : k = hn := by omega
              have HO : Is L9 (chkOps r) := ⟨by
                have := HC4.out.u
                rw [List.take_of_length_le (by rw [HHL.out]; omega)] at this
                rw [this]; rfl⟩
              clear hkn
              obtain ⟨O, hO⟩ : ∃ O, chkOps r = O := ⟨_, rfl⟩
              have HOO := Lib.hid hO
              have HSM := Lib.hid (chk_sml HV.out HG.out)
              have hO20 := chkOps_len HV.out
              have HON : Is O.length n9 := ⟨by rw [← hO, ← HO.out]; exact HC4.out.ln⟩
              rw [hO] at HSM hO20 HO
              have M3 := Lib.hid M2.out
              rw [HO.out] at M3
              clear hO HC4 M2
              go_wp2
              clear a0 a1 af0 af1 alt hcp4
              go_loopw [10, 11] (fun v10 i wr => ∃ (m : Nat) (s : ByteArray), v10 = .string s ∧ i = .int .i64 m ∧ m ≤ n9 ∧ Ck3 O m s ∧ Mem w wr [.box w.heap.size #[.slice HA hn hc, .slice GA gn gc] 37, .row 27 11 manF w.heap.size (.slice A4 n9 cp4) (O)]) (fun _ i _ => n9 - (intOf i).toNat)
              case atStart => exact ⟨0, ⟨#[]⟩, rfl, rfl, Nat.zero_le _, ⟨rfl⟩, M3.out⟩
              case round =>
                obtain ⟨m, s, rfl, rfl, hm, hC, hM⟩ := hrel
                have M9 := Lib.hid hM
                have hs6 := hC.len HSM.out hO20
                have HC := Lib.hid hC
                clear hM hC M3
                by_cases hlt3 : (m : Int) < n9
                · obtain ⟨g, x, rfl, hg0, hg1, hx, hc⟩ := M9.out.slot 1 rfl manF_len (by decide) (k := m) (by rw [HON.out]; omega)
                  obtain ⟨xk, xnm, xa, xb, ⟨xr, xl, xc, xg⟩, ⟨xm, xcc, xup⟩⟩ := x
                  have hsm := HSM.out _ (List.mem_of_getElem? hx)
                  have hxn : (xnm.size : Int) ≤ 1000000000 := by have := hsm.nm; simp only at this; omega
                  obtain ⟨hok, had⟩ := app_rec HSM.out hO20 hx
                  have HC3 : Hid (Ck3 O (m + 1) ⟨(recs 0 (O.take (m + 1))).toArray⟩) := Lib.hid ⟨by simp⟩
                  have x0 : wr.cell? ⟨g, m * 11 + 0, none⟩ = some (.int .i64 xk) := (hc 0 (by decide)).2 _ rfl
                  have x1 : wr.cell? ⟨g, m * 11 + 1, none⟩ = some (.string xnm) := (hc 1 (by decide)).2 _ rfl
                  have x2 : wr.cell? ⟨g, m * 11 + 2, none⟩ = some (.int .i64 xa) := (hc 2 (by decide)).2 _ rfl
                  have x3 : wr.cell? ⟨g, m * 11 + 3, none⟩ = some (.int .i64 xb) := (hc 3 (by decide)).2 _ rfl
                  have x4 : wr.cell? ⟨g, m * 11 + 4, none⟩ = some (.int .i64 xr) := (hc 4 (by decide)).2 _ rfl
                  have x5 : wr.cell? ⟨g, m * 11 + 5, none⟩ = some (.int .i64 xl) := (hc 5 (by decide)).2 _ rfl
                  have x6 : wr.cell? ⟨g, m * 11 + 6, none⟩ = some (.int .i64 xc) := (hc 6 (by decide)).2 _ rfl
                  have x7 : wr.cell? ⟨g, m * 11 + 7, none⟩ = some (.int .i64 xg) := (hc 7 (by decide)).2 _ rfl
                  have x8 : wr.cell? ⟨g, m * 11 + 8, none⟩ = some (.int .i64 xm) := (hc 8 (by decide)).2 _ rfl
                  have x9 : wr.cell? ⟨g, m * 11 + 9, none⟩ = some (.int .i64 xcc) := (hc 9 (by decide)).2 _ rfl
                  have x10 : wr.cell? ⟨g, m * 11 + 10, none⟩ = some (.bool xup) := (hc 10 (by decide)).2 _ rfl
                  rw [Nat.add_zero] at x0
                  have k0 : ¬ (m : Int) < 0 := by omega
                  have hap := fun w' => append_ref_any s (by omega) xk xnm xa xb xr xl xc xg xm xcc xup hxn w'
                  unfold AppTo at hap
                  rw [HC.out.s, hok, had] at hap
                  have HAP := Lib.hid hap
                  clear hap hok had hc hx hsm
                  obtain ⟨q, hq⟩ : ∃ q, recs 0 (O.take (m + 1)) = q := ⟨_, rfl⟩
                  rw [hq] at HAP HC3
                  clear hq
                  go_wp2_with ((with_reducible refine (HAP.out _).mono ?_); rintro e w11 ⟨rfl, h11⟩; have M11 := Lib.hid (M9.out.keep h11))
                  go_roundw
                  case rel => exact ⟨m + 1, _, rfl, by go_num, by omega, HC3.out, M11.out⟩
                  case measure => (simp [intOf]) <;> omega
                · have HSC : Is s.data.toList (chkL r) := ⟨by
                    have := HC.out.s
                    rw [List.take_of_length_le (by rw [HON.out]; omega)] at this
                    rw [this, ← HOO.out]; rfl⟩
                  have hrec := fun w' => recover_ref_any s (by omega) w'
                  unfold RecTo at hrec
                  rw [HSC.out, chk_parse HV.out HG.out, HOO.out] at hrec
                  have HREC := Lib.hid hrec
                  have HVO := Lib.hid (vr_recov O)
                  obtain ⟨v2, hv2⟩ : ∃ v2, sameR (recov O) r = v2 := ⟨_, rfl⟩
                  have HV2 : Is (sameR (recov O) r) v2 := ⟨hv2⟩
                  have HCO : Is (chkOk r) v2 := ⟨by rw [chk_same HVR.out (by have := nm_len s; rw [HSC.out] at this; omega), HOO.out]; exact hv2⟩
                  clear hrec hv2 HC
                  obtain ⟨⟨a0, a1⟩, ⟨af0, af1⟩, alt⟩ := M9.out.box2 0 rfl
                  go_wp2_with fail
                  refine (HREC.out _).mono ?_
                  rintro e w12 ⟨B1, m1, e1, B2, m2, e2, rfl, h12, hR, hcp⟩
                  have hb1 : (m1 : Int) ≤ 1000000 := by have := hR.hs.1; have := HVO.out.hl; omega
                  have hb2 : (m2 : Int) ≤ 1000000 := by have := hR.gs.1; have := HVO.out.gl; omega
                  have M12 := Lib.hid ((M9.out.keep h12).alloc' (b := w12.heap.size) rfl #[.slice B1 m1 e1, .slice B2 m2 e2] 37)
                  have HSA := Lib.hid (same_ref_any B1 m1 e1 B2 m2 e2 HA hn hc GA gn gc (recov O) r _ (hR.held ((Held.refl w12).alloc (.cells #[.slice B1 m1 e1, .slice B2 m2 e2] 37))) (HR.out.held M12.out.held) hb1 hb2)
                  rw [HV2.out] at HSA
                  clear h12 hR hcp M9 HREC a0 a1 af0 af1 alt
                  obtain ⟨⟨a0, a1⟩, ⟨af0, af1⟩, alt⟩ := M12.out.box2 0 rfl
                  obtain ⟨⟨b0, b1⟩, ⟨bf0, bf1⟩, blt⟩ := M12.out.box2 2 rfl
                  cases v2
                  · go_wp2_with fail
                    refine HSA.out.mono ?_
                    rintro e w13 ⟨rfl, h13⟩
                    go_wp2
                    go_ret2
                    exact ChkTo.no HCO.out (M12.out.keep h13).held
                  · go_wp2_with fail
                    refine HSA.out.mono ?_
                    rintro e w13 ⟨rfl, h13⟩
                    go_wp2
                    go_ret2
                    exact ChkTo.yes HCO.out HSC.out (M12.out.keep h13).held
end Jn
end Go.Proofs.Ytmmnanmegdflgaa

set_option linter.unusedVariables false
set_option linter.unusedSimpArgs false
set_option maxRecDepth 100000
namespace Go.Proofs.Ytmmnanmegdflgaa
open Go.RowKit Go.BigFrame Go.Sort Go.Lib
namespace Jn
open Ad Adm Law39 Lg Lgc Strs
/-- The operation that awake tries, its record. -/
def o0 : Man := ⟨4, ⟨#[]⟩, 0, 0, ⟨0, 0, 0, 0⟩, ⟨10, 10, true⟩⟩
theorem o0_sml : Sml o0 := hOp_sml (i := 0) (c := ⟨10, 10, true⟩) (by omega) (by decide)
theorem awk_one : recs 0 [o0] = record 0 o0 := by simp [recs]
theorem awk_app : appRec [] o0 = recs 0 [o0] := by
  unfold appRec
  rw [show (parse []).1 = [] from rfl, awk_one]; rfl
theorem awk_len : 1 ≤ (recs 0 [o0]).length ∧ (recs 0 [o0]).length ≤ 300 := by
  rw [awk_one]
  exact ⟨record_pos 0 o0, sml_rec o0_sml (by omega)⟩
theorem awk_ok : appOk [] o0 = true := by
  unfold appOk; rw [awk_app]; have := awk_len; exact decide_eq_true (by omega)
theorem awk_appd : appd [] o0 = recs 0 [o0] := by unfold appd; rw [awk_ok, if_pos rfl, awk_app]
theorem awk_parse : (parse (recs 0 [o0])).1 = [o0] ∧ used (recs 0 [o0]) = (recs 0 [o0]).length :=
  ⟨(parse_all (by intro o h; simp at h; subst h; exact o0_sml.fit) (by simp)).1, used_all (by intro o h; simp at h; subst h; exact o0_sml.fit) (by simp)⟩
theorem awk_recov : recov [o0] = ⟨[⟨10, 10, true⟩], []⟩ := by
  unfold recov run
  simp only [List.foldl_cons, List.foldl_nil]
  have h1 : validR ⟨[], []⟩ = true := vr_zero.valid
  have h2 : validR ⟨[⟨10, 10, true⟩], []⟩ = true := by kernel_rfl
  rw [apply_4 h1 rfl]
  unfold setHost
  rw [if_neg (by decide), if_neg (by decide)]
  have h3 : putH [] o0.a o0.c = [⟨10, 10, true⟩] := by kernel_rfl
  rw [h3, if_pos h2]
theorem awk_cut : (parse ((recs 0 [o0]).take ((recs 0 [o0]).length - 1))).1 = [] ∧ used ((recs 0 [o0]).take ((recs 0 [o0]).length - 1)) = 0 := by
  have h1 := awk_len
  have h2 : nOk ((recs 0 [o0]).take ((recs 0 [o0]).length - 1)) 0 = false := by
    refine next_part (n := 0) (o := o0) (x := (recs 0 [o0]).drop ((recs 0 [o0]).length - 1)) ?_ ?_ ?_
    · rw [List.take_append_drop, awk_one]
    · intro h
      have := congrArg List.length h
      rw [List.length_drop, List.length_nil] at this
      omega
    · have := sealed_len 0 o0 (by omega) (by have := sml_enc o0_sml; omega)
      have := sml_enc o0_sml
      omega
  have h3 := parse_no h2
  refine ⟨by unfold parse; rw [h3], ?_⟩
  unfold used parse
  rw [h3, Nat.sub_self]
set_option maxHeartbeats 1000000 in
theorem awake_any (w : World) : Calls Try.prog 9 #[] w fun e w' => e = .returned (.bool true) ∧ Held w w' := by
  obtain ⟨l, hl⟩ : ∃ l, recs 0 [o0] = l := ⟨_, rfl⟩
  obtain ⟨s, hs⟩ : ∃ s : ByteArray, (⟨l.toArray⟩ : ByteArray) = s := ⟨_, rfl⟩
  have hsl : s.data.toList = l := by rw [← hs]
  obtain ⟨n, hn⟩ : ∃ n, l.length = n := ⟨_, rfl⟩
  have hz : s.size = n := by rw [← nm_len, hsl, hn]
  have hn1 := awk_len
  rw [hl, hn] at hn1
  obtain ⟨hn1, hn2⟩ := hn1
  have hap := fun w' => append_any ⟨#[]⟩ (by decide) 4 ⟨#[]⟩ 0 0 0 0 0 0 10 10 true (by decide) w'
  unfold AppTo at hap
  have e1 : appOk (⟨#[]⟩ : ByteArray).data.toList ⟨4, ⟨#[]⟩, 0, 0, ⟨0, 0, 0, 0⟩, ⟨10, 10, true⟩⟩ = true := awk_ok
  have e2 : appd (⟨#[]⟩ : ByteArray).data.toList ⟨4, ⟨#[]⟩, 0, 0, ⟨0, 0, 0, 0⟩, ⟨10, 10, true⟩⟩ = recs 0 [o0] := awk_appd
  rw [e1, e2, hl, hs] at hap
  have HAP := Lib.hid hap
  have hpa := fun w' => parse_any s (by rw [hz]; omega) w'
  unfold ParseTo at hpa
  have hp := awk_parse
  rw [hl, hn] at hp
  rw [hsl, hp.1, hp.2] at hpa
  have HPA := Lib.hid hpa
  have hre := fun w' => recover_any s (by rw [hz]; omega) w'
  unfold RecTo at hre
  rw [hsl, hp.1, hp.2, awk_recov, List.take_of_length_le (by omega), hs] at hre
  have HRE := Lib.hid hre
  have hct := awk_cut
  rw [hl, hn] at hct
  have hpc := fun w' => parse_any (s.extract 0 (n - 1)) (by rw [ByteArray.size_extract, hz]; omega) w'
  unfold ParseTo at hpc
  have e5 : (s.extract 0 (n - 1)).data.toList = l.take (n - 1) := by rw [str_take hsl]
  rw [e5, hct.1, hct.2] at hpc
  clear e5
  have HPC := Lib.hid hpc
  have hdc := dec_enc o0 o0_sml.ok
  have hen := fun w' => encode_any 4 ⟨#[]⟩ 0 0 0 0 0 0 10 10 true (by decide) w'
  have hel := sml_enc o0_sml
  have e3 : enc ⟨4, ⟨#[]⟩, 0, 0, ⟨0, 0, 0, 0⟩, ⟨10, 10, true⟩⟩ = enc o0 := rfl
  unfold MakesS at hen
  rw [e3] at hen
  obtain ⟨E, hE⟩ : ∃ E, enc o0 = E := ⟨_, rfl⟩
  rw [hE] at hen hel hdc
  have HEN := Lib.hid hen
  have hde := fun w' => decode_any ⟨E.toArray⟩ (by rw [ba_size]; omega) w'
  unfold DecTo at hde
  have e4 : (⟨E.toArray⟩ : ByteArray).data.toList = E := by simp
  rw [e4, hdc.1, hdc.2] at hde
  dsimp only [manC, o0] at hde
  have HDE := Lib.hid hde
  have HE := Lib.hid hs
  have HZ := Lib.hid hz
  clear hap e1 e2 hpa hp hre hct hpc hdc hen hel e3 hE hde e4 hs hz hl hsl hn
  have M0 := Lib.hid (((Mem.start w).alloc' (b := w.heap.size) rfl #[.int .i64 10, .int .i64 10, .bool true] 25).alloc' (b := w.heap.size + 1) (by simp) #[.int .i64 4, .string ⟨#[]⟩, .int .i64 0, .int .i64 0, .int .i64 0, .int .i64 0, .int .i64 0, .int .i64 0, .int .i64 10, .int .i64 10, .bool true] 27)
  go_enter Try.func9, Try.ntmps9
  go_wp2_with fail
  refine (HAP.out _).mono ?_
  rintro e w1 ⟨rfl, h1⟩
  have M1 := Lib.hid (M0.out.keep h1)
  go_wp2_with fail
  refine (HPA.out _).mono ?_
  rintro e w2 ⟨v2, rfl, o2, h2⟩
  obtain ⟨A2, cp2, rfl, _, _⟩ := o2.shape
  have M2 := Lib.hid (M1.out.keep h2)
  clear h1 h2 o2 M0 M1
  go_wp2_with fail
  refine (HRE.out _).mono ?_
  rintro e w3 ⟨B1, m1, f1, B2, m2, f2, rfl, h3, hR, hcp⟩
  have HR := Lib.hid hR
  obtain rfl : 1 = m1 := hR.hs.1
  obtain rfl : 0 = m2 := hR.gs.1
  have M3 := Lib.hid ((M2.out.keep h3).alloc' (b := w3.heap.size) rfl #[.slice B1 1 f1, .slice B2 0 f2] 37)
  clear h3 hR hcp M2
  obtain ⟨⟨q0, q1, q2, q3, q4, q5, q6, q7, q8, q9, q10⟩, _, qlt⟩ := M3.out.box11 1 rfl
  go_wp2_with fail
  refine (HEN.out _).mono ?_
  rintro e w4 ⟨rfl, h4⟩
  have M4 := Lib.hid (M3.out.keep h4)
  go_wp2_with fail
  refine (HDE.out _).mono ?_
  rintro e w5 ⟨rfl, h5⟩
  have M5 := Lib.hid ((M4.out.keep h5).alloc' (b := w5.heap.size) rfl #[.int .i64 4, .string ⟨#[]⟩, .int .i64 0, .int .i64 0, .int .i64 0, .int .i64 0, .int .i64 0, .int .i64 0, .int .i64 10, .int .i64 10, .bool true] 27)
  clear q0 q1 q2 q3 q4 q5 q6 q7 q8 q9 q10 qlt M3 M4
  obtain ⟨⟨q0, q1, q2, q3, q4, q5, q6, q7, q8, q9, q10⟩, _, qlt⟩ := M5.out.box11 1 rfl
  obtain ⟨⟨r0, r1⟩, _, rlt⟩ := M5.out.box2 2 rfl
  have hnq := neq_man_same o0
  dsimp only [manC, o0] at hnq
  obtain ⟨⟨p0, p1, p2, p3, p4, p5, p6, p7, p8, p9, p10⟩, _, plt⟩ := M5.out.box11 3 rfl
  have hz := HZ.out
  go_wp2_with fail
  refine (HPC.out _).mono ?_
  rintro e w6 ⟨v6, rfl, o6, h6⟩
  obtain ⟨A6, cp6, rfl, _, _⟩ := o6.shape
  rw [List.length_nil]
  have M6 := Lib.hid (M5.out.keep h6)
  have HR6 := Lib.hid (HR.out.held (((((Held.refl w3).alloc _).step h4).step h5).alloc _ |>.step h6))
  clear p0 p1 p2 p3 p4 p5 p6 p7 p8 p9 p10 plt q0 q1 q2 q3 q4 q5 q6 q7 q8 q9 q10 qlt r0 r1 rlt hnq h4 h5 h6 o6 M5
  obtain ⟨⟨a0, a1, a2⟩, _, alt⟩ := M6.out.box3 0 rfl
  obtain ⟨⟨r0, r1⟩, _, rlt⟩ := M6.out.box2 2 rfl
  obtain ⟨b, off, x, rfl, lb, hx, hc⟩ := HR6.out.hs.at_ (Held.refl _) (k := 0) (by omega)
  obtain rfl : (⟨10, 10, true⟩ : Cap) = x := by simpa using hx
  have x0 := hc 0 _ rfl
  have x1 := hc 1 _ rfl
  have x2 := hc 2 _ rfl
  dsimp only at x0 x1 x2
  simp only [Nat.zero_mul, Nat.add_zero] at x0 x1 x2
  have heq := eql_cap_same ⟨10, 10, true⟩
  dsimp only at heq
  have k0 := cell_regrown a0
  have k1 := cell_regrown a1
  have k2 := cell_regrown a2
  have k3 := cell_regrown r0
  have k4 := cell_regrown r1
  have k5 := cell_regrown x0
  have k6 := cell_regrown x1
  have k7 := cell_regrown x2
  have cV := Lib.hid fun dd os => Calls.regrown_of (d := dd) (os := os) (valid_any (some ⟨b, off, none⟩) 1 f1 B2 0 f2 [⟨10, 10, true⟩] [] (grow (redrawn w6 dd) os) (HR6.out.held (below_regrown w6 dd os)).hs (HR6.out.held (below_regrown w6 dd os)).gs (by omega) (by omega) (by intro p hp; simp at hp))
  rw [show validR ⟨[⟨10, 10, true⟩], []⟩ = true by kernel_rfl] at cV
  clear hx hc a0 a1 a2 r0 r1 x0 x1 x2 HR
  go_wp2
  refine wp_region_quiet_below (by kernel_rfl) (by kernel_rfl) ?_
  repeat (go_big_quiet_step (first | (go_at_call 16; exact cV.out _ _)))
  refine wpQuiet_nil ?_
  intro _ hw'
  obtain ⟨⟨dq, osq⟩, hw''⟩ := hw'
  subst hw''
  go_wp2
  go_ret
  exact ⟨rfl, M6.out.held.step (below_regrown w6 dq osq)⟩
end Jn
end Go.Proofs.Ytmmnanmegdflgaa
