/-
  Contracts: Decode of eventlog (chapters 19, 24).
-/
import Derived.Test.YtdacgdokbfcgdaaGreatWxDcE
import Derived.Test.YtdacgdokbfcgdaaGreatW15
set_option linter.unusedVariables false
set_option linter.unusedSimpArgs false
set_option maxRecDepth 100000
namespace Go.Proofs.YtdacgdokbfcgdaaGreat
open Go.RowKit Go.Lib
namespace Enc
open Uv Lg Lgc Strs
theorem info_entry : (Tryz.prog.info? 68).map (fun i => (i.zero, i.size, i.bytes)) = some (some (.agg #[.int .u64 0, .int .i64 0, .int .u32 0, .string ⟨#[]⟩]), 4, 40) := by kernel_rfl
/-- A call hands back what a string is decoded to. -/
def DecTo (p : List Ent × Int) (w : World) (e : Ending) (w' : World) : Prop :=
  ∃ A cap, e = .returned (.tuple #[.slice A p.1.length cap, .int .i64 p.2]) ∧ Own 68 4 entC w.heap.size w' (.slice A p.1.length cap) p.1 ∧ Held w w' ∧ (∀ x ∈ p.1, EntOK x) ∧ p.1.length ≤ 400
theorem DecTo.no {p : List Ent × Int} {w w' : World} (hp : p = ([], 1900)) (h : Held w w') : DecTo p w (.returned (.tuple #[.slice none 0 0, .int .i64 1900])) w' := by
  subst hp
  exact ⟨none, 0, rfl, Own.nil w', h, fun x hx => by simp at hx, by simp⟩
theorem bytesR_lens (n : Nat) (l : List UInt8) (b : Bool) : (bytesR n l b).1.length + (bytesR n l b).2.1.length ≤ l.length := by
  unfold bytesR; split
  · simp
  · simp [List.length_take]; omega
theorem dataR_len (l : List UInt8) (b : Bool) : (dataR l b).1.length ≤ l.length ∧ (dataR l b).2.1.length ≤ l.length := by
  have h1 := numR_len l b
  have h2 := bytesR_lens (numR l b).1 (numR l b).2.1 (numR l b).2.2
  unfold dataR; omega
theorem evR_lens (l : List UInt8) (b : Bool) : (evR l b).k ≤ 4294967295 ∧ (evR l b).n ≤ 4294967295 ∧ (evR l b).d.length ≤ l.length ∧ (evR l b).t.length ≤ l.length := by
  have h1 := word_lt l b
  have h2 := word_len l b
  have h3 := word_lt (wordR l b).2.1 (wordR l b).2.2
  have h4 := word_len (wordR l b).2.1 (wordR l b).2.2
  have h5 := dataR_len (wordR l b).2.1 (wordR l b).2.2
  have h6 := dataR_len (wordR (wordR l b).2.1 (wordR l b).2.2).2.1 (wordR (wordR l b).2.1 (wordR l b).2.2).2.2
  unfold evR
  simp only
  split
  · simp only [List.length_nil]; omega
  · split
    · simp only; omega
    · split
      · simp only; omega
      · simp only [List.length_nil]; omega
/-- One entry is read. -/
theorem Fol.next_no {s rest t1 : List UInt8} {f c i at_ x : Nat} {L : List Ent} {b1 : Bool} {v : EvV} (h : Fol s f c i L rest at_) (hi : i < c) (h1 : numR rest false = (x, t1, b1)) (h2 : evR t1 b1 = v) (hb : v.b = true) : decL s f = ([], 1900) := by
  refine decL_no (h.stop hi fun y t hy hok hle hr => ?_)
  rw [hr, numR_put _ (by have := hy.t; omega)] at h1
  injection h1 with e1 h1
  injection h1 with e2 e3
  subst e1 e2 e3
  rw [evR_enc hok ⟨hy.n1, hy.n2⟩] at h2
  subst h2
  cases hb
theorem Fol.next_yes {s rest t1 : List UInt8} {f c i at_ x : Nat} {L : List Ent} {b1 : Bool} {v : EvV} {ds : ByteArray} {y : Ent} (h : Fol s f c i L rest at_) (hi : i < c) (h1 : numR rest false = (x, t1, b1)) (h2 : evR t1 b1 = v) (hd : ds.data.toList = v.d) (hat : at_ < 18446744073709551616)
    (hy : y = ⟨(at_ + x) % 18446744073709551616, v.k, v.n, ds⟩) : Fol s f c (i + 1) (L ++ [y]) v.t y.t := by
  subst hy
  refine h.step hi fun z t hz hok hle hr => ?_
  have hzt := hz.t
  rw [hr, numR_put _ (by omega)] at h1
  injection h1 with e1 h1
  injection h1 with e2 e3
  subst e1 e2 e3
  rw [evR_enc hok ⟨hz.n1, hz.n2⟩] at h2
  subst h2
  have hz1 := ok_bd hok
  have hz2 := hz.n1
  refine ⟨ent_ext ?_ ?_ ?_ hd, rfl⟩
  · simp only
    rw [show at_ + (z.t - at_) = z.t by omega]; exact Nat.mod_eq_of_lt hz.t
  · simp only; omega
  · simp only; omega
set_option maxHeartbeats 2000000 in
theorem decode_any (s : ByteArray) (f : Nat) (hs : (s.size : Int) ≤ 1000000000000) (hf : (f : Int) ≤ 18446744073709551615) (w : World) : Calls Tryz.prog 14 #[.string s, .int .u64 f] w (DecTo (decL s.data.toList f) w) := by
  obtain ⟨l, hl⟩ : ∃ l, s.data.toList = l := ⟨_, rfl⟩
  have HS := Lib.hid hl
  have hsl : l.length = s.size := by rw [← hl, len_eq]
  have hnum := fun (w : World) => number_any w.heap.size s false (by omega) (w.alloc (.cells #[.string s, .bool false] 87)) (Bx.new w _)
  rw [hl] at hnum ⊢
  obtain ⟨c, t0, b0, hn⟩ : ∃ c t0 b0, numR l false = (c, t0, b0) := ⟨_, _, _, rfl⟩
  have hcl := numR_lt l false
  have htl := numR_len l false
  rw [hn] at hnum hcl htl
  have HN := Lib.hid hn
  have HNUM := Lib.hid hnum
  simp only at hcl htl
  clear hnum hn hl
  go_enter Tryz.func14, Tryz.ntmps14
  go_wp2_with fail
  refine (HNUM.out _).mono ?_
  rintro e w1 ⟨rfl, s1, hs1, hb1, hg1⟩
  have HS1 : Is s1.data.toList t0 := ⟨hs1⟩
  have hl1 : s1.size = t0.length := by rw [← hs1, len_eq]
  have M1 : Hid (Mem w w1 [.box w.heap.size #[.string s1, .bool b0] 87]) := ((Mem.start w).alloc' (b := w.heap.size) rfl #[.string s, .bool false] 87).callBx 0 rfl hg1 hb1
  clear hs1 hb1 hg1 HNUM
  by_cases hc : (c : Int) ≤ 400
  · have hc2 : ¬ (400 : Int) < c := by omega
    have hb0 : c ≠ 0 → b0 = false := fun h => by
      cases b0
      · rfl
      · have h2 := HN.out
        unfold numR at h2
        split at h2
        · injection h2 with _ h2; injection h2 with _ h2; cases h2
        · injection h2 with h2 _; exact absurd h2.symm h
    have HF0 : Hid (Fol l f c 0 [] t0 f) := by
      cases b0
      · exact Fol.start HN.out
      · exact fun M hM => absurd hM (Fol.bad HN.out M)
    go_wp2
    have M2 := Lib.hid (M1.out.nilRow (e := 68) (s := 4) (f := entC))
    go_loopw [8, 9, 22] (fun v a i wr => ∃ (L : List Ent) (q at_ : Nat) (sr : ByteArray), a = .int .u64 (at_ : Int) ∧ at_ < 18446744073709551616 ∧ i = .int .u64 (q : Int) ∧ q ≤ c ∧ L.length = q ∧ sr.size ≤ l.length ∧ (∀ x ∈ L, EntOK x) ∧ Fol l f c q L sr.data.toList at_ ∧ Mem w wr [.box w.heap.size #[.string sr, .bool b0] 87, .row 68 4 entC w.heap.size v L]) (fun _ _ i _ => c - (RowKit.intOf i).toNat)
    case atStart => exact ⟨[], 0, f, s1, rfl, by omega, rfl, Nat.zero_le _, rfl, by omega, fun x hx => by simp at hx, by rw [HS1.out]; exact HF0.out, M2.out⟩
    case round =>
      obtain ⟨L, q, at_, sr, rfl, hat, rfl, hqc, hLq, hsr, hLok, hF, hM⟩ := hrel
      obtain ⟨A, cap, rfl, hcap, _⟩ := (hM.row 1 rfl).shape
      obtain ⟨rest, hr⟩ : ∃ rest, sr.data.toList = rest := ⟨_, rfl⟩
      rw [hr] at hF
      have HR : Is sr.data.toList rest := ⟨hr⟩
      have hrl : rest.length = sr.size := by rw [← hr, len_eq]
      have HF := Lib.hid hF
      have HLQ : Is L.length q := ⟨hLq⟩
      have HLOK := Lib.hid hLok
      have M := Lib.hid hM
      rw [hLq] at M hcap ⊢
      clear hr hF hLq hLok hM M1 M2 HF0
      by_cases hlt : q < c
      · obtain rfl : b0 = false := hb0 (by omega)
        have hlt2 : (q : Int) < c := by omega
        obtain ⟨x, t1, b1, hn1⟩ : ∃ x t1 b1, numR rest false = (x, t1, b1) := ⟨_, _, _, rfl⟩
        have hnum := number_any w.heap.size sr false (by omega) wr (M.out.blk 0 rfl)
        rw [HR.out, hn1] at hnum
        have HNUM := Lib.hid hnum
        have hxl := numR_lt rest false
        have htl2 := numR_len rest false
        rw [hn1] at hxl htl2
        simp only at hxl htl2
        have HN1 := Lib.hid hn1
        clear hnum hn1
        obtain ⟨at2, hat2⟩ : ∃ at2, (at_ + x) % 18446744073709551616 = at2 := ⟨_, rfl⟩
        have hw : IntKind.u64.wrap ((at_ : Int) + x) = (at2 : Int) := by
          simp only [IntKind.wrap, IntKind.bits, IntKind.signed, Bool.false_and, Bool.false_eq_true, if_false]
          omega
        have hat2l : at2 < 18446744073709551616 := by omega
        have HAT2 := Lib.hid hat2
        clear hat2
        go_wp2_with fail
        refine HNUM.out.mono ?_
        rintro e w2 ⟨rfl, s2, hs2, hb2, hg2⟩
        have HS2 : Is s2.data.toList t1 := ⟨hs2⟩
        have hl2 : s2.size = t1.length := by rw [← hs2, len_eq]
        have M3 := Lib.hid (M.out.callBx 0 rfl hg2 hb2)
        clear hs2 hb2 hg2 HNUM M
        obtain ⟨v, hv⟩ : ∃ v, evR t1 b1 = v := ⟨_, rfl⟩
        have hev := event_any w.heap.size s2 b1 (by omega) w2 (M3.out.blk 0 rfl)
        rw [HS2.out, hv] at hev
        have HEV := Lib.hid hev
        have HV := Lib.hid hv
        have hvl := evR_lens t1 b1
        rw [hv] at hvl
        obtain ⟨vk, vn, vd, vt, vb⟩ := v
        simp only at hvl
        clear hev hv
        go_wp2_with fail
        refine HEV.out.mono ?_
        rintro e w3 ⟨ds, rfl, hds, s3, hs3, hb3, hg3⟩
        dsimp only at hds hs3 hb3 ⊢
        have HDS : Is ds.data.toList vd := ⟨hds⟩
        have HS3 : Is s3.data.toList vt := ⟨hs3⟩
        have hl3 : s3.size = vt.length := by rw [← hs3, len_eq]
        have hld : ds.size = vd.length := by rw [← hds, len_eq]
        have M4 := Lib.hid (M3.out.callBx 0 rfl hg3 hb3)
        clear hds hs3 hb3 hg3 HEV M3
        have hn1 : vb = true → Hid (decL l f = ([], 1900)) := fun h => HF.out.next_no hlt HN1.out HV.out h
        have M5 := Lib.hid (M4.out.alloc #[.int .i64 (vk : Int), .int .u32 (vn : Int), .string ds] 66)
        have HM := Lib.hid fun (j : Nat) (v : Value) (h : (#[Value.string s3, Value.bool vb] : Array Value)[j]? = some v) => M5.out.cell 0 rfl j h
        have c0 := HM.out 0 _ rfl
        have c1 := HM.out 1 _ rfl
        have hz : w.heap.size < w3.heap.size := M4.out.lt 0 rfl
        have hz2 : ¬ w.heap.size = w3.heap.size := by omega
        by_cases hvb : vb = true
        · subst hvb
          have HNO := hn1 rfl
          clear hn1
          go_wp2
          go_ret2
          exact DecTo.no HNO.out M5.out.held
        · obtain rfl : vb = false := by simpa using hvb
          clear hvb
          clear hn1
          have M6 := Lib.hid (M5.out.skip (.cells #[.int .u64 (at2 : Int), .int .i64 (vk : Int), .int .u32 (vn : Int), .string ds] 68))
          have HY := Lib.hid (HF.out.next_yes hlt HN1.out HV.out HDS.out hat (y := ⟨at2, vk, vn, ds⟩) (by rw [HAT2.out]))
          go_wp2_with (at_builtin; refine Mem.wp_app M6.out 1 rfl rfl _ _ _ rfl _ 40 Tryz.underlying25 info_entry rfl (by decide) entC_len entC_one ⟨at2, vk, vn, ds⟩ ⟨w3.heap.size + 1, 0, none⟩ 1 rfl rfl (cells_new _ (by simp) _ _) q HLQ.out (by omega) (by decide) ?_; intro g4 cp4 w4 M7'; have M7 := Lib.hid M7'; clear M7')
          go_roundw
          case rel =>
            refine ⟨L ++ [(⟨at2, (vk : Int), (vn : Int), ds⟩ : Ent)], q + 1, at2, s3, rfl, hat2l, by go_num, by omega, by rw [List.length_append, HLQ.out]; rfl, by omega, fun y hy => ?_, by rw [HS3.out]; exact HY.out, (M7.out.take 2 : Mem w w4 [.box w.heap.size #[.string s3, .bool false] 87, .row 68 4 entC w.heap.size (.slice (some ⟨g4, 0, none⟩) (q + 1) cp4) (L ++ [(⟨at2, (vk : Int), (vn : Int), ds⟩ : Ent)])])⟩
            rcases List.mem_append.1 hy with hy | hy
            · exact HLOK.out y hy
            · rw [List.mem_singleton] at hy
              subst hy
              exact ⟨hat2l, by simp only; omega, by simp only; omega, by simp only; omega, by simp only; omega, by simp only; omega⟩
          case measure => (simp [RowKit.intOf]) <;> omega
      · obtain rfl : q = c := by omega
        have hlt2 : ¬ (q : Int) < q := by omega
        have HSL := Lib.hid (Own.reads entC_len (M.out.row 1 rfl)).1
        have henc := fun (w' : World) (k : Held wr w') => encode_any A q cap L f w' (HSL.out.held k) (by omega) HLOK.out hf
        obtain ⟨r, hr⟩ : ∃ r, encode L f = r := ⟨_, rfl⟩
        rw [hr] at henc
        have HR1 := Lib.hid hr
        have HENC := Lib.hid henc
        have HFIN := Lib.hid (show (r = (l, 0) → decL l f = (L, 0)) ∧ (r ≠ (l, 0) → decL l f = ([], 1900)) by rw [← hr]; exact HF.out.done HLOK.out)
        obtain ⟨rt, rc⟩ := r
        clear hr henc
        go_wp2_with fail
        refine (HENC.out _ (Held.refl _)).mono ?_
        rintro e w2 ⟨rfl, h2⟩
        have H2 := Lib.hid (M.out.keep h2)
        clear h2 HENC
        dsimp only
        by_cases hrc : rc = 0
        · subst hrc
          by_cases hrt : rt = l
          · subst hrt
            have hq1 : (rt == s.toList) = true := by rw [ByteArray.toList_eq, HS.out]; simp
            have hq2 : (!rt == s.toList) = false := by rw [hq1]; rfl
            have HD := Lib.hid (HFIN.out.1 rfl)
            clear HR1 HFIN HF HN HS
            go_wp2
            go_ret2
            rw [HD.out]
            exact ⟨A, cap, by rw [HLQ.out]; rfl, by rw [HLQ.out]; exact H2.out.row 1 rfl, H2.out.held, HLOK.out, by rw [HLQ.out]; omega⟩
          · have hq1 : (rt == s.toList) = false := by rw [ByteArray.toList_eq, HS.out]; simpa using hrt
            have hq2 : (!rt == s.toList) = true := by rw [hq1]; rfl
            have HD := Lib.hid (HFIN.out.2 (fun h => hrt (by injection h)))
            clear HR1 HFIN HF HN HS hrt
            go_wp2
            go_ret2
            exact DecTo.no HD.out H2.out.held
        · have hrc2 : (rc == 0) = false := by simpa using hrc
          have HD := Lib.hid (HFIN.out.2 (fun h => hrc (by injection h)))
          clear HR1 HFIN HF HN HS
          go_wp2
          go_ret2
          exact DecTo.no HD.out H2.out.held
  · have hc2 : (400 : Int) < c := by omega
    go_wp2
    go_ret2
    exact DecTo.no (decL_no (Fol.many HN.out (by omega))) M1.out.held
end Enc
end Go.Proofs.YtdacgdokbfcgdaaGreat
