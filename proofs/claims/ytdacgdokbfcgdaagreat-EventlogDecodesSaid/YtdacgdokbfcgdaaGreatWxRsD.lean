/-
  Contracts of the reference: Decode (chapters 19, 24).
-/
import Derived.Test.YtdacgdokbfcgdaaGreatWxRsC
import Derived.Test.YtdacgdokbfcgdaaGreatWxRsB
set_option linter.unusedVariables false
set_option linter.unusedSimpArgs false
set_option maxRecDepth 100000
namespace Go.Proofs.YtdacgdokbfcgdaaGreat
open Go.RowKit Go.Lib
namespace Enc
open Uv Lg Lgc Strs
theorem Fol.no_Q {s rest t1 : List UInt8} {f c i at_ x : Nat} {L : List Ent} {b1 : Bool} {v : EvV} (h : Fol s f c i L rest at_) (hi : i < c) (h1 : numR rest false = (x, t1, b1)) (h2 : evQ t1 b1 = v) (hb : v.b = true) : decL s f = ([], 1900) := by
  refine decL_no (h.stop hi fun y t hy hok hle hr => ?_)
  rw [hr, numR_put _ (by have := hy.t; omega)] at h1
  injection h1 with e1 h1
  injection h1 with e2 e3
  subst e1 e2 e3
  rw [evQ_enc hok ⟨hy.n1, hy.n2⟩] at h2
  subst h2
  cases hb
theorem Fol.far_Q {s rest t1 : List UInt8} {f c i at_ x : Nat} {L : List Ent} {b1 : Bool} (h : Fol s f c i L rest at_) (hi : i < c) (h1 : numR rest false = (x, t1, b1)) (hx : 18446744073709551615 - at_ < x) : decL s f = ([], 1900) := by
  refine decL_no (h.stop hi fun y t hy hok hle hr => ?_)
  have hyt := hy.t
  rw [hr, numR_put _ (by omega)] at h1
  injection h1 with e1 h1
  omega
theorem Fol.yes_Q {s rest t1 : List UInt8} {f c i at_ x : Nat} {L : List Ent} {b1 : Bool} {v : EvV} {ds : ByteArray} {y : Ent} (h : Fol s f c i L rest at_) (hi : i < c) (h1 : numR rest false = (x, t1, b1)) (h2 : evQ t1 b1 = v) (hd : ds.data.toList = v.d)
    (hy : y = ⟨at_ + x, v.k, v.n, ds⟩) : Fol s f c (i + 1) (L ++ [y]) v.t y.t := by
  subst hy
  refine h.step hi fun z t hz hok hle hr => ?_
  have hzt := hz.t
  rw [hr, numR_put _ (by omega)] at h1
  injection h1 with e1 h1
  injection h1 with e2 e3
  subst e1 e2 e3
  rw [evQ_enc hok ⟨hz.n1, hz.n2⟩] at h2
  subst h2
  have hz1 := ok_bd hok
  have hz2 := hz.n1
  refine ⟨ent_ext ?_ ?_ ?_ hd, rfl⟩
  · simp only; omega
  · simp only; omega
  · simp only; omega
set_option maxHeartbeats 4000000 in
theorem decoder_any (s : ByteArray) (f : Nat) (hs : (s.size : Int) ≤ 1000000000000) (hf : (f : Int) ≤ 18446744073709551615) (w : World) : Calls Tryz.prog 16 #[.string s, .int .u64 f] w (DecTo (decL s.data.toList f) w) := by
  obtain ⟨l, hl⟩ : ∃ l, s.data.toList = l := ⟨_, rfl⟩
  have HS := Lib.hid hl
  have hsl : l.length = s.size := by rw [← hl, len_eq]
  have hnum := fun (w : World) => number_ref_any w.heap.size s false (by omega) (w.alloc (.cells #[.string s, .bool false] 92)) (Bx.new w _)
  rw [hl] at hnum ⊢
  obtain ⟨c, t0, b0, hn⟩ : ∃ c t0 b0, numR l false = (c, t0, b0) := ⟨_, _, _, rfl⟩
  have hcl := numR_lt l false
  have htl := numR_len l false
  rw [hn] at hnum hcl htl
  have HN := Lib.hid hn
  have HNUM := Lib.hid hnum
  simp only at hcl htl
  clear hnum hn hl
  go_enter Tryz.func16, Tryz.ntmps16
  go_wp2_with fail
  refine (HNUM.out _).mono ?_
  rintro e w1 ⟨rfl, s1, hs1, hb1, hg1⟩
  have HS1 : Is s1.data.toList t0 := ⟨hs1⟩
  have hl1 : s1.size = t0.length := by rw [← hs1, len_eq]
  have M1 : Hid (Mem w w1 [.box w.heap.size #[.string s1, .bool b0] 92]) := ((Mem.start w).alloc' (b := w.heap.size) rfl #[.string s, .bool false] 92).callBx 0 rfl hg1 hb1
  clear hs1 hb1 hg1 HNUM
  obtain ⟨⟨c0, c1⟩, _, cl⟩ := M1.out.box2 0 rfl
  cases b0
  case true =>
    go_wp2
    go_ret2
    exact DecTo.no (decL_no (Fol.bad HN.out)) M1.out.held
  case false =>
  by_cases hc : (c : Int) ≤ 400
  · have hc2 : ¬ (400 : Int) < c := by omega
    have HF0 : Hid (Fol l f c 0 [] t0 f) := Fol.start HN.out
    go_wp2
    have M2 := Lib.hid (M1.out.nilRow (e := 68) (s := 4) (f := entC))
    clear c0 c1 cl
    go_loopw [8, 9, 10] (fun v a i wr => ∃ (L : List Ent) (q at_ : Nat) (sr : ByteArray) (bb : Bool), a = .int .u64 (at_ : Int) ∧ at_ < 18446744073709551616 ∧ i = .int .u64 (q : Int) ∧ q ≤ c ∧ L.length = q ∧ sr.size ≤ l.length ∧ (∀ x ∈ L, EntOK x) ∧ (bb = false → Fol l f c q L sr.data.toList at_) ∧ (bb = true → decL l f = ([], 1900)) ∧ Mem w wr [.box w.heap.size #[.string sr, .bool bb] 92, .row 68 4 entC w.heap.size v L]) (fun _ _ i _ => c - (RowKit.intOf i).toNat)
    case atStart => exact ⟨[], 0, f, s1, false, rfl, by omega, rfl, Nat.zero_le _, rfl, by omega, fun x hx => by simp at hx, (fun _ => by rw [HS1.out]; exact HF0.out), (fun h => by cases h), M2.out⟩
    case round =>
      obtain ⟨L, q, at_, sr, bb, rfl, hat, rfl, hqc, hLq, hsr, hLok, hF, hD, hM⟩ := hrel
      obtain ⟨A, cap, rfl, hcap, _⟩ := (hM.row 1 rfl).shape
      obtain ⟨rest, hr⟩ : ∃ rest, sr.data.toList = rest := ⟨_, rfl⟩
      rw [hr] at hF
      have HR : Is sr.data.toList rest := ⟨hr⟩
      have hrl : rest.length = sr.size := by rw [← hr, len_eq]
      have HF1 := Lib.hid hF
      have HDD := Lib.hid hD
      have HLQ : Is L.length q := ⟨hLq⟩
      have HLOK := Lib.hid hLok
      have M := Lib.hid hM
      rw [hLq] at M hcap ⊢
      clear hr hF hD hLq hLok hM M1 M2 HF0
      obtain ⟨⟨c0, c1⟩, _, cl⟩ := M.out.box2 0 rfl
      cases bb
      case true =>
        have HNO := Lib.hid (HDD.out rfl)
        clear HDD HF1
        by_cases hlt : q < c
        · have hlt2 : (q : Int) < c := by omega
          go_wp2
          go_ret2
          exact DecTo.no HNO.out M.out.held
        · have hlt2 : ¬ (q : Int) < c := by omega
          go_wp2
          go_ret2
          exact DecTo.no HNO.out M.out.held
      case false =>
      have HF := Lib.hid (HF1.out rfl)
      clear HDD HF1
      by_cases hlt : q < c
      · have hlt2 : (q : Int) < c := by omega
        obtain ⟨x, t1, b1, hn1⟩ : ∃ x t1 b1, numR rest false = (x, t1, b1) := ⟨_, _, _, rfl⟩
        have hnum := number_ref_any w.heap.size sr false (by omega) wr (M.out.blk 0 rfl)
        rw [HR.out, hn1] at hnum
        have HNUM := Lib.hid hnum
        have hxl := numR_lt rest false
        have htl2 := numR_len rest false
        rw [hn1] at hxl htl2
        simp only at hxl htl2
        have HN1 := Lib.hid hn1
        have hws : IntKind.u64.wrap (18446744073709551615 - (at_ : Int)) = 18446744073709551615 - (at_ : Int) := IntWalk.u64_in _ (by omega)
        clear hnum hn1
        go_wp2_with fail
        refine HNUM.out.mono ?_
        rintro e w2 ⟨rfl, s2, hs2, hb2, hg2⟩
        have HS2 : Is s2.data.toList t1 := ⟨hs2⟩
        have hl2 : s2.size = t1.length := by rw [← hs2, len_eq]
        have M3 := Lib.hid (M.out.callBx 0 rfl hg2 hb2)
        clear hs2 hb2 hg2 HNUM M c0 c1 cl
        by_cases hfar : (18446744073709551615 - (at_ : Int)) < x
        · have HNO := Lib.hid (HF.out.far_Q hlt HN1.out (by omega))
          go_wp2
          go_ret2
          exact DecTo.no HNO.out M3.out.held
        obtain ⟨at2, hat2⟩ : ∃ at2, at_ + x = at2 := ⟨_, rfl⟩
        have hw : IntKind.u64.wrap ((at_ : Int) + x) = (at2 : Int) := by rw [IntWalk.u64_in _ (by omega)]; omega
        have hw2 : (at_ : Int) + x = (at2 : Int) := by omega
        have hat2l : at2 < 18446744073709551616 := by omega
        have HAT2 := Lib.hid hat2
        clear hat2
        obtain ⟨v, hv⟩ : ∃ v, evQ t1 b1 = v := ⟨_, rfl⟩
        have hev := eventr_any w.heap.size s2 b1 (by omega) w2 (M3.out.blk 0 rfl)
        rw [HS2.out, hv] at hev
        have HEV := Lib.hid hev
        have HV := Lib.hid hv
        have hvl := evQ_lens t1 b1
        rw [hv] at hvl
        obtain ⟨vk, vn, vd, vt, vb⟩ := v
        simp only at hvl
        clear hev hv
        go_wp2_with fail
        refine HEV.out.mono ?_
        rintro e w3 ⟨ds, rfl, hds, s3, hs3, hb3, hg3⟩
        dsimp only at hds hs3 hb3 ⊢
        have HDS : Is ds.data.toList vd := ⟨hds⟩
        have HS3 : Is s3.data.toList vt := ⟨hs3⟩
        have hl3 : s3.size = vt.length := by rw [← hs3, len_eq]
        have hld : ds.size = vd.length := by rw [← hds, len_eq]
        have M4 := Lib.hid (M3.out.callBx 0 rfl hg3 hb3)
        clear hds hs3 hb3 hg3 HEV M3
        have HNO : Hid (vb = true → decL l f = ([], 1900)) := fun h => HF.out.no_Q hlt HN1.out HV.out h
        have HY := Lib.hid (HF.out.yes_Q hlt HN1.out HV.out HDS.out (y := ⟨at2, vk, vn, ds⟩) (by rw [HAT2.out]))
        have M6 := Lib.hid (M4.out.skip (.cells #[.int .u64 (at2 : Int), .int .i64 (vk : Int), .int .u32 (vn : Int), .string ds] 68))
        go_wp2_with (at_builtin; refine Mem.wp_app M6.out 1 rfl rfl _ _ _ rfl _ 40 Tryz.underlying25 info_entry rfl (by decide) entC_len entC_one ⟨at2, vk, vn, ds⟩ ⟨w3.heap.size, 0, none⟩ 1 rfl rfl (cells_new _ rfl _ _) q HLQ.out (by omega) (by decide) ?_; intro g4 cp4 w4 M7'; have M7 := Lib.hid M7'; clear M7')
        go_roundw
        case rel =>
          refine ⟨L ++ [(⟨at2, (vk : Int), (vn : Int), ds⟩ : Ent)], q + 1, at2, s3, vb, rfl, hat2l, by go_num, by omega, by rw [List.length_append, HLQ.out]; rfl, by omega, fun y hy => ?_, (fun _ => by rw [HS3.out]; exact HY.out), HNO.out, (M7.out : Mem w w4 [.box w.heap.size #[.string s3, .bool vb] 92, .row 68 4 entC w.heap.size (.slice (some ⟨g4, 0, none⟩) (q + 1) cp4) (L ++ [(⟨at2, (vk : Int), (vn : Int), ds⟩ : Ent)])])⟩
          rcases List.mem_append.1 hy with hy | hy
          · exact HLOK.out y hy
          · rw [List.mem_singleton] at hy
            subst hy
            exact ⟨hat2l, by simp only; omega, by simp only; omega, by simp only; omega, by simp only; omega, by simp only; omega⟩
        case measure => (simp [RowKit.intOf]) <;> omega
      · obtain rfl : q = c := by omega
        have hlt2 : ¬ (q : Int) < q := by omega
        by_cases hrest : (0 : Int) < sr.size
        · have HNO := Lib.hid (decL_no (HF.out.rest (by intro e; rw [e] at hrl; simp at hrl; omega)))
          go_wp2
          go_ret2
          exact DecTo.no HNO.out M.out.held
        have hrest0 : (sr.size : Int) = 0 := by omega
        have HSL := Lib.hid (Own.reads entC_len (M.out.row 1 rfl)).1
        have henc := fun (w' : World) (k : Held wr w') => encoder_any A q cap L f w' (HSL.out.held k) (by omega) HLOK.out hf
        obtain ⟨r, hr⟩ : ∃ r, encode L f = r := ⟨_, rfl⟩
        rw [hr] at henc
        have HR1 := Lib.hid hr
        have HENC := Lib.hid henc
        have HFIN := Lib.hid (show (r = (l, 0) → decL l f = (L, 0)) ∧ (r ≠ (l, 0) → decL l f = ([], 1900)) by rw [← hr]; exact HF.out.done HLOK.out)
        obtain ⟨rt, rc⟩ := r
        clear hr henc
        go_wp2_with fail
        refine (HENC.out _ (Held.refl _)).mono ?_
        rintro e w2 ⟨rfl, h2⟩
        have H2 := Lib.hid (M.out.keep h2)
        clear h2 HENC c0 c1 cl
        dsimp only
        by_cases hrc : rc = 0
        · subst hrc
          by_cases hrt : rt = l
          · subst hrt
            have hq1 : (rt == s.toList) = true := by rw [ByteArray.toList_eq, HS.out]; simp
            have hq2 : (!rt == s.toList) = false := by rw [hq1]; rfl
            have HD := Lib.hid (HFIN.out.1 rfl)
            clear HR1 HFIN HF HN HS
            go_wp2
            go_ret2
            rw [HD.out]
            exact ⟨A, cap, by rw [HLQ.out]; rfl, by rw [HLQ.out]; exact H2.out.row 1 rfl, H2.out.held, HLOK.out, by rw [HLQ.out]; omega⟩
          · have hq1 : (rt == s.toList) = false := by rw [ByteArray.toList_eq, HS.out]; simpa using hrt
            have hq2 : (!rt == s.toList) = true := by rw [hq1]; rfl
            have HD := Lib.hid (HFIN.out.2 (fun h => hrt (by injection h)))
            clear HR1 HFIN HF HN HS hrt
            go_wp2
            go_ret2
            exact DecTo.no HD.out H2.out.held
        · have hrc2 : (rc == 0) = false := by simpa using hrc
          have HD := Lib.hid (HFIN.out.2 (fun h => hrc (by injection h)))
          clear HR1 HFIN HF HN HS
          go_wp2
          go_ret2
          exact DecTo.no HD.out H2.out.held
  · have hc2 : (400 : Int) < c := by omega
    go_wp2
    go_ret2
    exact DecTo.no (decL_no (Fol.many HN.out (by omega))) M1.out.held
end Enc
end Go.Proofs.YtdacgdokbfcgdaaGreat
