/-
  Contracts: find, others of the reference (chapter 42).
  Contracts: host of the reference (chapter 42).
-/
import Derived.Test.YtmmnanmegdflgaaZ11
import Derived.Test.YtmmnanmegdflgaaZ14
import Derived.Deep.DeepCutAuto
set_option linter.unusedVariables false
set_option linter.unusedSimpArgs false
set_option maxRecDepth 100000
namespace Go.Proofs.Ytmmnanmegdflgaa
open Go.RowKit Go.BigFrame Go.Sort
namespace Jn
open Ad Adm Law39
/-- The place of a name, or -1. -/
def findZ (G : List Pl) (s : ByteArray) : Int := if hasG G s = true then ((pos G s : Nat) : Int) else -1
theorem find_ref_any (HA : Option Addr) (hn hc : Nat) (GA : Option Addr) (gn gc : Nat) (G : List Pl) (s : ByteArray) (w : World) (hG : Sl 7 plC w GA gn G) (hs : Srt G) (hgn : (gn : Int) ≤ 1000) :
    Calls Try.prog 42 #[.agg #[.slice HA hn hc, .slice GA gn gc], .string s] w fun e w' => e = .returned (.int .i64 (findZ G s)) ∧ Held w w' := by
  have HG := Lib.hid hG
  have HL : Is G.length gn := ⟨hG.1⟩
  have HS := Lib.hid hs
  clear hG hs
  obtain ⟨wb, hwb⟩ : ∃ wb, w.alloc (.cells #[.slice HA hn hc, .slice GA gn gc] 37) = wb := ⟨_, rfl⟩
  have hB1 : wb.cell? ⟨w.heap.size, 1, none⟩ = some (.slice GA gn gc) := by rw [← hwb]; exact Bx.cell (Bx.new w _) 1 rfl
  have hWB : Held w wb := by rw [← hwb]; exact (Held.refl w).alloc _
  have HB1 := Lib.hid hB1
  have HWB := Lib.hid hWB
  have HEQ := Lib.hid hwb
  clear hB1 hWB hwb
  go_enter Try.func42, Try.ntmps42
  go_wp2
  rw [HEQ.out]
  go_loopw [5] (fun i wr => ∃ k : Nat, k ≤ gn ∧ i = .int .i64 k ∧ Hid (∀ j (hj : j < G.length), j < k → same G[j].nm s = false) ∧ wr = wb) (fun i _ => gn - (intOf i).toNat)
  case atStart => exact ⟨0, Nat.zero_le _, rfl, (fun j _ h => absurd h (Nat.not_lt_zero _) : ∀ j (hj : j < G.length), j < 0 → _), rfl⟩
  case round =>
    obtain ⟨k, hk, rfl, HNO, rfl⟩ := hrel
    have e1 := HB1.out
    have k0 : ¬ (k : Int) < 0 := by omega
    by_cases hlt : k < gn
    · obtain ⟨b, off, nm, r, l, c, g, x, y, rfl, lb, hp, p0, p1, p2, p3, p4, p5, p6⟩ := plAt HG.out HWB.out hlt
      have hkl : k < G.length := by rw [HL.out]; exact hlt
      have hgk : G[k].nm = nm := by rw [List.getElem?_eq_getElem hkl] at hp; injection hp with hp; rw [hp]
      cases hsm : same nm s
      · have HN2 : Hid (∀ j (hj : j < G.length), j < k + 1 → same G[j].nm s = false) := (fun j hj hjk => by
          by_cases q : j = k
          · subst q; rw [hgk]; exact hsm
          · exact HNO.out j hj (by omega) : ∀ j (hj : j < G.length), j < k + 1 → same G[j].nm s = false)
        have q1 : (nm.toList == s.toList) = false := hsm
        clear hp hgk hsm hkl
        go_wp2
        go_roundw
        case rel => exact ⟨k + 1, by omega, by go_num, HN2, by trivial⟩
        case measure => simp [intOf]; omega
      · obtain ⟨h1, h2⟩ := has_only HS.out hkl (by rw [hgk]; exact hsm)
        have HF : Is (findZ G s) (k : Int) := ⟨by unfold findZ; rw [if_pos h1, ← h2]⟩
        have q1 : (nm.toList == s.toList) = true := hsm
        clear hp hgk hsm hkl h1 h2
        go_wp2
        go_ret
        exact ⟨by rw [HF.out]; rfl, HWB.out⟩
    · have HF : Is (findZ G s) (-1) := ⟨by
        unfold findZ
        rw [if_neg ?_]
        intro h
        obtain ⟨p, hp, hpn, hpl⟩ := has_at h
        have := HNO.out _ hpl (by rw [HL.out] at hpl; omega)
        rw [List.getElem?_eq_getElem hpl] at hp
        injection hp with hp
        rw [hp, (same_iff _ _).2 hpn] at this; cases this⟩
      go_wp2
      go_ret
      exact ⟨by rw [HF.out]; rfl, HWB.out⟩
/-- The first k guests without one. -/
def oth (L : List Pl) (q k : Nat) : List Pl := (L.take k).eraseIdx q
theorem oth_zero (L : List Pl) (q : Nat) : oth L q 0 = [] := by simp [oth]
theorem oth_all (L : List Pl) (q : Nat) : oth L q L.length = L.eraseIdx q := by unfold oth; rw [List.take_length]
theorem oth_step {L : List Pl} {q k : Nat} {p : Pl} (hp : L[k]? = some p) (h : k ≠ q) : oth L q (k + 1) = oth L q k ++ [p] := by
  obtain ⟨hk, rfl⟩ := List.getElem?_eq_some_iff.1 hp
  have hl : (L.take k).length = k := by rw [List.length_take]; omega
  unfold oth
  rw [List.take_succ_eq_append_getElem hk]
  rcases Nat.lt_or_ge q k with h1 | h1
  · rw [List.eraseIdx_append_of_lt_length (by rw [hl]; exact h1)]
  · rw [List.eraseIdx_of_length_le (by rw [List.length_append, hl]; simp; omega), List.eraseIdx_of_length_le (by rw [hl]; omega)]
theorem oth_skip {L : List Pl} {k : Nat} (hk : k < L.length) : oth L k (k + 1) = oth L k k := by
  have hl : (L.take k).length = k := by rw [List.length_take]; omega
  unfold oth
  rw [List.take_succ_eq_append_getElem hk, List.eraseIdx_append_of_length_le (by rw [hl]; exact Nat.le_refl _), hl, Nat.sub_self, List.eraseIdx_of_length_le (l := L.take k) (by rw [hl]; exact Nat.le_refl _)]
  simp
theorem oth_len (L : List Pl) (q k : Nat) : (oth L q k).length ≤ k := by
  unfold oth
  have := List.length_eraseIdx_le (L.take k) q
  rw [List.length_take] at this; omega
/-- The guests without one, in a slice of the call's own. -/
def OthTo (M : List Pl) (w : World) (e : Ending) (w' : World) : Prop := ∃ A n c, e = .returned (.slice A n c) ∧ Own 75 7 plC w.heap.size w' (.slice A n c) M ∧ Held w w'
theorem others_ref_any (HA : Option Addr) (hn hc : Nat) (GA : Option Addr) (gn gc : Nat) (G : List Pl) (q : Nat) (w : World) (hG : Sl 7 plC w GA gn G) (hgn : (gn : Int) ≤ 1000) :
    Calls Try.prog 43 #[.agg #[.slice HA hn hc, .slice GA gn gc], .int .i64 q] w (OthTo (G.eraseIdx q) w) := by
  have HG := Lib.hid hG
  have HL : Is G.length gn := ⟨hG.1⟩
  clear hG
  have M0 := Lib.hid (((Mem.start w).alloc' (b := w.heap.size) rfl #[.slice HA hn hc, .slice GA gn gc] 37).nilRow (e := 75) (s := 7) (f := plC))
  go_enter Try.func43, Try.ntmps43
  go_wp2
  go_loopw [5, 6] (fun v i wr => ∃ k : Nat, k ≤ gn ∧ i = .int .i64 k ∧ Mem w wr [.box w.heap.size #[.slice HA hn hc, .slice GA gn gc] 37, .row 75 7 plC w.heap.size v (oth G q k)]) (fun _ i _ => gn - (intOf i).toNat)
  case atStart => exact ⟨0, Nat.zero_le _, rfl, by rw [oth_zero]; exact M0.out⟩
  case round =>
    clear M0
    obtain ⟨k, hk, rfl, hM⟩ := hrel
    obtain ⟨A, cap, rfl, hcap, _⟩ := (hM.row 1 rfl).shape
    have M := Lib.hid hM
    have ho := oth_len G q k
    obtain ⟨n, hn'⟩ : ∃ n, (oth G q k).length = n := ⟨_, rfl⟩
    have HN := Lib.hid hn'
    rw [hn'] at M hcap ho ⊢
    clear hM hn'
    obtain ⟨⟨c0, c1⟩, _, ltc⟩ := M.out.box2 0 rfl
    have k0 : ¬ (k : Int) < 0 := by omega
    by_cases hlt : k < gn
    · obtain ⟨b, off, nm, r, l, c, g, x, y, rfl, lb, hp, p0, p1, p2, p3, p4, p5, p6⟩ := plAt HG.out M.out.held hlt
      by_cases hq : k = q
      · subst hq
        have HS : Is (oth G k (k + 1)) (oth G k k) := ⟨oth_skip (by rw [HL.out]; exact hlt)⟩
        clear hp
        go_wp2
        go_roundw
        case rel => exact ⟨k + 1, by omega, by go_num, by rw [HS.out]; exact M.out⟩
        case measure => simp [intOf]; omega
      · have HS : Is (oth G q (k + 1)) (oth G q k ++ [⟨nm, ⟨r, l, c, g⟩, x, y⟩]) := ⟨oth_step hp hq⟩
        have q1 : ((k : Int) != (q : Int)) = true := by simp; omega
        have q2 : (k != q) = true := by simp; omega
        have q3 : ((k : Int) == (q : Int)) = false := by simp; omega
        clear hp hq
        go_wp2_with (at_builtin; refine Mem.wp_app (M.out.skip _) 1 rfl rfl _ _ _ rfl _ 64 Try.underlying35 SlcPl.info rfl (by decide) plC_len plC_one ⟨nm, ⟨r, l, c, g⟩, x, y⟩ ⟨wr.heap.size, 0, none⟩ 1 rfl rfl (cells_new _ (by simp) _ _) n HN.out (by omega) (by decide) ?_; intro g4 cp4 w4 M4x; rw [← HS.out] at M4x; have M4 := Lib.hid M4x; clear M4x)
        go_roundw
        case rel => exact ⟨k + 1, by omega, by go_num, M4.out⟩
        case measure => simp [intOf]; omega
    · have HF : Is (oth G q k) (G.eraseIdx q) := ⟨by rw [show k = G.length by rw [HL.out]; omega, oth_all]⟩
      go_wp2
      go_ret
      exact ⟨_, _, _, rfl, by rw [← HF.out]; exact M.out.row 1 rfl, M.out.held⟩
end Jn
end Go.Proofs.Ytmmnanmegdflgaa

set_option linter.unusedVariables false
set_option linter.unusedSimpArgs false
set_option maxRecDepth 100000
namespace Go.Proofs.Ytmmnanmegdflgaa
open Go.RowKit Go.BigFrame Go.Sort
namespace Jn
open Ad Adm Law39
set_option maxHeartbeats 4000000 in
theorem host_ref_any (HA : Option Addr) (hn hc : Nat) (GA : Option Addr) (gn gc : Nat) (r : Reg) (k : Int) (nm : ByteArray) (a b dr dl dc dg cm cc : Int) (up : Bool) (w : World) (h : RegR w HA hn GA gn r) (hcp : Caps HA hn hc GA gn gc) (hhn : (hn : Int) ≤ 1000) (hgn : (gn : Int) ≤ 1000000) (hnm : ∀ p ∈ r.gs, (p.nm.size : Int) ≤ 1000000000) :
    Calls Try.prog 40 #[.agg #[.slice HA hn hc, .slice GA gn gc], .agg #[.int .i64 k, .string nm, .int .i64 a, .int .i64 b, .int .i64 dr, .int .i64 dl, .int .i64 dc, .int .i64 dg, .int .i64 cm, .int .i64 cc, .bool up]] w (ApTo (setHost r ⟨k, nm, a, b, ⟨dr, dl, dc, dg⟩, ⟨cm, cc, up⟩⟩) w) := by
  have HR := Lib.hid h
  have HN : Is r.hs.length hn := ⟨h.hs.1⟩
  obtain ⟨W2, hW2⟩ : ∃ W2, ((w.alloc (.cells #[.slice HA hn hc, .slice GA gn gc] 37)).alloc (.cells #[.int .i64 k, .string nm, .int .i64 a, .int .i64 b, .int .i64 dr, .int .i64 dl, .int .i64 dc, .int .i64 dg, .int .i64 cm, .int .i64 cc, .bool up] 27)).alloc (.cells #[.slice none 0 0, .slice none 0 0] 37) = W2 := ⟨_, rfl⟩
  have M : Hid (Mem w W2 [.box w.heap.size #[.slice HA hn hc, .slice GA gn gc] 37, .box (w.heap.size + 1) #[.int .i64 k, .string nm, .int .i64 a, .int .i64 b, .int .i64 dr, .int .i64 dl, .int .i64 dc, .int .i64 dg, .int .i64 cm, .int .i64 cc, .bool up] 27, .box (w.heap.size + 1 + 1) #[.slice none 0 0, .slice none 0 0] 37]) := by
    rw [← hW2]; exact (((Mem.start w).alloc' (b := w.heap.size) rfl _ _).alloc' (b := w.heap.size + 1) (by simp) _ _).alloc' (b := w.heap.size + 1 + 1) (by simp) _ _
  have HEQ := Lib.hid hW2
  have HV : ∀ w, Hid (Calls Try.prog 57 #[.agg #[.int .i64 cm, .int .i64 cc, .bool up]] w fun e w' => e = .returned (.bool (vh cm cc)) ∧ Held w w') := fun w => vh_ref_any cm cc up w
  obtain ⟨bv, hbv⟩ : ∃ bv, vh cm cc = bv := ⟨_, rfl⟩
  have HBV : Is (vh cm cc) bv := ⟨hbv⟩
  simp only [hbv] at HV
  clear hW2 hbv h
  obtain ⟨⟨c0, c1⟩, ⟨e0, e1⟩, ltc⟩ := M.out.box2 0 rfl
  obtain ⟨⟨m0, m1, m2, m3, m4, m5, m6, m7, m8, m9, m10⟩, _, ltm⟩ := M.out.box11 1 rfl
  obtain ⟨⟨d0, d1⟩, ⟨f0, f1⟩, ltd⟩ := M.out.box2 2 rfl
  by_cases t1 : a < 0
  · have HX : Is (setHost r ⟨k, nm, a, b, ⟨dr, dl, dc, dg⟩, ⟨cm, cc, up⟩⟩) (r, 4200) := ⟨hostBad_yes (.inl t1)⟩
    go_enter Try.func40, Try.ntmps40
    go_upto_region 1 with (fail)
    rw [HEQ.out]
    go_wp2
    have MF := (M.out.put 2 rfl 0 (.slice HA hn hc)).put 2 rfl 1 (.slice GA gn gc)
    refine bodyPost_ret (Bx.res_ct Try.results40 rfl (reg_load (MF.blk 2 rfl))) rfl ?_
    rw [HX.out]
    exact ⟨_, _, _, _, _, _, rfl, MF.held, HR.out.held MF.held, hcp⟩
  by_cases t2 : (hn : Int) < a
  · have HX : Is (setHost r ⟨k, nm, a, b, ⟨dr, dl, dc, dg⟩, ⟨cm, cc, up⟩⟩) (r, 4200) := ⟨hostBad_yes (.inr (.inl (by rw [HN.out]; exact t2)))⟩
    go_enter Try.func40, Try.ntmps40
    go_upto_region 1 with (fail)
    rw [HEQ.out]
    go_wp2
    have MF := (M.out.put 2 rfl 0 (.slice HA hn hc)).put 2 rfl 1 (.slice GA gn gc)
    refine bodyPost_ret (Bx.res_ct Try.results40 rfl (reg_load (MF.blk 2 rfl))) rfl ?_
    rw [HX.out]
    exact ⟨_, _, _, _, _, _, rfl, MF.held, HR.out.held MF.held, hcp⟩
  cases bv
  · have HX : Is (setHost r ⟨k, nm, a, b, ⟨dr, dl, dc, dg⟩, ⟨cm, cc, up⟩⟩) (r, 4200) := ⟨hostBad_yes (.inr (.inr HBV.out))⟩
    go_enter Try.func40, Try.ntmps40
    go_upto_region 1 with (fail)
    rw [HEQ.out]
    go_wp2_with fail
    (with_reducible refine (HV _).out.mono ?_)
    rintro e w3 ⟨rfl, h3⟩
    have M3 := Lib.hid (M.out.keep h3)
    clear M h3
    clear c0 c1 e0 e1 m0 m1 m2 m3 m4 m5 m6 m7 m8 m9 m10 d0 d1 f0 f1 ltc ltm ltd
    obtain ⟨⟨c0, c1⟩, ⟨e0, e1⟩, ltc⟩ := M3.out.box2 0 rfl
    obtain ⟨⟨m0, m1, m2, m3, m4, m5, m6, m7, m8, m9, m10⟩, _, ltm⟩ := M3.out.box11 1 rfl
    obtain ⟨⟨d0, d1⟩, ⟨f0, f1⟩, ltd⟩ := M3.out.box2 2 rfl
    go_wp2
    have MF := (M3.out.put 2 rfl 0 (.slice HA hn hc)).put 2 rfl 1 (.slice GA gn gc)
    refine bodyPost_ret (Bx.res_ct Try.results40 rfl (reg_load (MF.blk 2 rfl))) rfl ?_
    rw [HX.out]
    exact ⟨_, _, _, _, _, _, rfl, MF.held, HR.out.held MF.held, hcp⟩
  have HBAD : Is (hostBad r ⟨k, nm, a, b, ⟨dr, dl, dc, dg⟩, ⟨cm, cc, up⟩⟩) false := ⟨hostBad_no t1 (by rw [HN.out]; exact t2) HBV.out⟩
  by_cases t6 : a = 6
  · have HX : Is (setHost r ⟨k, nm, a, b, ⟨dr, dl, dc, dg⟩, ⟨cm, cc, up⟩⟩) (r, 4203) := ⟨setHost_full HBAD.out t6⟩
    have t6b : (a == 6) = true := by simp [t6]
    clear t6
    go_enter Try.func40, Try.ntmps40
    go_upto_region 1 with (fail)
    rw [HEQ.out]
    go_wp2_with fail
    (with_reducible refine (HV _).out.mono ?_)
    rintro e w3 ⟨rfl, h3⟩
    have M3 := Lib.hid (M.out.keep h3)
    clear M h3
    clear c0 c1 e0 e1 m0 m1 m2 m3 m4 m5 m6 m7 m8 m9 m10 d0 d1 f0 f1 ltc ltm ltd
    obtain ⟨⟨c0, c1⟩, ⟨e0, e1⟩, ltc⟩ := M3.out.box2 0 rfl
    obtain ⟨⟨m0, m1, m2, m3, m4, m5, m6, m7, m8, m9, m10⟩, _, ltm⟩ := M3.out.box11 1 rfl
    obtain ⟨⟨d0, d1⟩, ⟨f0, f1⟩, ltd⟩ := M3.out.box2 2 rfl
    go_wp2
    have MF := (M3.out.put 2 rfl 0 (.slice HA hn hc)).put 2 rfl 1 (.slice GA gn gc)
    refine bodyPost_ret (Bx.res_ct Try.results40 rfl (reg_load (MF.blk 2 rfl))) rfl ?_
    rw [HX.out]
    exact ⟨_, _, _, _, _, _, rfl, MF.held, HR.out.held MF.held, hcp⟩
  have t6b : (a == 6) = false := by simp [t6]
  by_cases t7 : a = hn
  · obtain ⟨L', hL'⟩ : ∃ L', r.hs ++ [⟨cm, cc, up⟩] = L' := ⟨_, rfl⟩
    have HPUT : Is (putH r.hs a ⟨cm, cc, up⟩) L' := ⟨by unfold putH; rw [if_pos (by rw [HN.out]; exact t7), hL']⟩
    have HL' := Lib.hid hL'
    have HLL : Is L'.length (hn + 1) := ⟨by rw [← hL', List.length_append, HN.out]; rfl⟩
    obtain ⟨v, hv⟩ : ∃ v, validR ⟨L', r.gs⟩ = v := ⟨_, rfl⟩
    have HVR : Is (validR ⟨L', r.gs⟩) v := ⟨hv⟩
    have HX : Is (setHost r ⟨k, nm, a, b, ⟨dr, dl, dc, dg⟩, ⟨cm, cc, up⟩⟩) (if v = true then (⟨L', r.gs⟩, 0) else (r, 4200)) := ⟨setHost_ok HBAD.out t6 HPUT.out hv⟩
    have t7b : (a == (hn : Int)) = true := by simp [t7]
    clear t6 t7 hL' hv HPUT
    go_enter Try.func40, Try.ntmps40
    go_upto_region 1 with (fail)
    rw [HEQ.out]
    go_wp2_with fail
    (with_reducible refine (HV _).out.mono ?_)
    rintro e w3 ⟨rfl, h3⟩
    have M3 := Lib.hid (M.out.keep h3)
    clear M h3
    clear c0 c1 e0 e1 m0 m1 m2 m3 m4 m5 m6 m7 m8 m9 m10 d0 d1 f0 f1 ltc ltm ltd
    obtain ⟨⟨c0, c1⟩, ⟨e0, e1⟩, ltc⟩ := M3.out.box2 0 rfl
    obtain ⟨⟨m0, m1, m2, m3, m4, m5, m6, m7, m8, m9, m10⟩, _, ltm⟩ := M3.out.box11 1 rfl
    obtain ⟨⟨d0, d1⟩, ⟨f0, f1⟩, ltd⟩ := M3.out.box2 2 rfl
    go_wp2
    go_cut [6] (fun xp wx => ∃ xb A1 cap1, xp = .pointer (some ⟨xb, 0, none⟩) ∧ hn ≤ cap1 ∧ Mem w wx [.box w.heap.size #[.slice HA hn hc, .slice GA gn gc] 37, .box (w.heap.size + 1) #[.int .i64 k, .string nm, .int .i64 a, .int .i64 b, .int .i64 dr, .int .i64 dl, .int .i64 dc, .int .i64 dg, .int .i64 cm, .int .i64 cc, .bool up] 27, .box (w.heap.size + 1 + 1) #[.slice none 0 0, .slice none 0 0] 37, .box xb #[.slice A1 hn cap1, .slice GA gn gc] 37, .row 25 3 capC w.heap.size (.slice A1 hn cap1) r.hs])
    case first =>
      have MA := Lib.hid ((M3.out.emptyRow (e := 25) (s := 3) (f := capC) (b := w3.heap.size) rfl).drew)
      have MB := Lib.hid (((M3.out.emptyRow (e := 25) (s := 3) (f := capC) (b := w3.heap.size) rfl).alloc' (b := w3.heap.size + 1) (by simp) #[.slice none 0 0, .slice none 0 0] 37).drew)
      have MC := Lib.hid (((M3.out.alloc #[.slice none 0 0, .slice none 0 0] 37).emptyRow (e := 25) (s := 3) (f := capC) (b := w3.heap.size + 1) (by simp)).drew)
      have HC := Lib.hid (fun w' (q : Held w3 w') => And.intro (q.cell c0) (q.cell c1))
      go_region_held3 (fun w' => w'.cell? ⟨w.heap.size, 0, none⟩ = some (.slice HA hn hc) ∧ w'.cell? ⟨w.heap.size, 1, none⟩ = some (.slice GA gn gc))
        (first | exact HC.out _ (Held.refl _).drew | exact HC.out _ ((Held.refl w3).alloc _).drew | exact HC.out _ (((Held.refl w3).alloc _).alloc _).drew | exact Hid.out (by assumption))
        (first | (have M5 := MA.out; refine Mem.step_cat M5 3 rfl (by rfl) _ _ _ (by rfl) _ 24 Try.underlying34 info_cap (by rfl) (by decide) capC_len capC_one r.hs HA hn _ (by rfl) (by rfl) (HR.out.hs.held (Mem.held (by assumption))) rfl (by omega) (by decide) ?_; intro A5 cap5 w5 M6 hA5; clear M5; simp only [Nat.zero_add, List.nil_append] at M6 ⊢; have kz := Lib.hid (M6.box2 0 rfl).1; have ky := Lib.hid ((M6.alloc #[.slice A5 hn cap5, .slice GA gn gc] 37).box2 0 rfl).1; have kx := Lib.hid ((M6.alloc #[.slice none 0 0, .slice none 0 0] 37).box2 0 rfl).1; have MX := Lib.hid ((M6.alloc #[.slice A5 hn cap5, .slice GA gn gc] 37).sel [0, 1, 2, 4, 3] (by decide))) | (have M5 := MB.out; refine Mem.step_cat M5 3 rfl (by rfl) _ _ _ (by rfl) _ 24 Try.underlying34 info_cap (by rfl) (by decide) capC_len capC_one r.hs HA hn _ (by rfl) (by rfl) (HR.out.hs.held (Mem.held (by assumption))) rfl (by omega) (by decide) ?_; intro A5 cap5 w5 M6 hA5; clear M5; simp only [Nat.zero_add, List.nil_append] at M6 ⊢; obtain ⟨⟨z0, z1⟩, ⟨zf0, zf1⟩, zlt⟩ := M6.box2 4 rfl; have M7 := (M6.put 4 rfl 0 (.slice A5 hn cap5)).put 4 rfl 1 (.slice GA gn gc); have kz := Lib.hid (M7.box2 0 rfl).1; have ky := Lib.hid (M6.box2 0 rfl).1; have MX := Lib.hid (M7.sel [0, 1, 2, 4, 3] (by decide))) | (have M5 := MC.out; refine Mem.step_cat M5 4 rfl (by rfl) _ _ _ (by rfl) _ 24 Try.underlying34 info_cap (by rfl) (by decide) capC_len capC_one r.hs HA hn _ (by rfl) (by rfl) (HR.out.hs.held (Mem.held (by assumption))) rfl (by omega) (by decide) ?_; intro A5 cap5 w5 M6 hA5; clear M5; simp only [Nat.zero_add, List.nil_append] at M6 ⊢; obtain ⟨⟨z0, z1⟩, ⟨zf0, zf1⟩, zlt⟩ := M6.box2 3 rfl; have M7 := (M6.put 3 rfl 0 (.slice A5 hn cap5)).put 3 rfl 1 (.slice GA gn gc); have kz := Lib.hid (M7.box2 0 rfl).1; have ky := Lib.hid (M6.box2 0 rfl).1; have MX := Lib.hid (M7.sel [0, 1, 2, 3, 4] (by decide))))
      all_goals
        go_wp2
        go_meet
        case rel => exact ⟨_, _, _, rfl, by have := (MX.out.row 4 rfl).shape; obtain ⟨A9, c9, e9, q9, _⟩ := this; injection e9 with e9 e10 e11; omega, MX.out⟩
    case rest =>
      obtain ⟨xb, A1, cp1, rfl, hcp1, Mx⟩ := hcut
      have M8 := Lib.hid Mx
      clear Mx M3 HV
      clear c0 c1 e0 e1 m0 m1 m2 m3 m4 m5 m6 m7 m8 m9 m10 d0 d1 f0 f1 ltc ltm ltd
      obtain ⟨⟨c0, c1⟩, ⟨e0, e1⟩, ltc⟩ := M8.out.box2 0 rfl
      obtain ⟨⟨m0, m1, m2, m3, m4, m5, m6, m7, m8, m9, m10⟩, _, ltm⟩ := M8.out.box11 1 rfl
      obtain ⟨⟨d0, d1⟩, ⟨f0, f1⟩, ltd⟩ := M8.out.box2 2 rfl
      obtain ⟨⟨x0, x1⟩, ⟨y0, y1⟩, ltx⟩ := M8.out.box2 3 rfl
      have nx0 : w.heap.size ≠ xb := M8.out.ne 0 3 rfl rfl (by decide)
      have nx1 : w.heap.size + 1 ≠ xb := M8.out.ne 1 3 rfl rfl (by decide)
      have nx2 : w.heap.size + 1 + 1 ≠ xb := M8.out.ne 2 3 rfl rfl (by decide)
      go_wp2_with (at_builtin; refine Mem.wp_app (M8.out.skip _) 4 rfl rfl _ _ _ rfl _ 24 Try.underlying34 info_cap rfl (by decide) capC_len capC_one ⟨cm, cc, up⟩ ⟨wc.heap.size, 0, none⟩ 1 rfl rfl (cells_new _ (by simp) _ _) hn HN.out (by omega) (by decide) ?_; intro g4 cp4 w4 M4x; rw [HL'.out] at M4x; have M4 := Lib.hid M4x; clear M4x x0 x1 y0 y1 ltx c0 c1 e0 e1 m0 m1 m2 m3 m4 m5 m6 m7 m8 m9 m10 d0 d1 f0 f1 ltc ltm ltd; obtain ⟨⟨x0, x1⟩, ⟨y0, y1⟩, ltx⟩ := M4.out.box2 3 rfl)
      have M5x := M4.out.put 3 rfl 0 (.slice (some ⟨g4, 0, none⟩) (hn + 1) cp4)
      obtain ⟨w5, hw5⟩ : ∃ w5, w4.setCell ⟨xb, 0, none⟩ (.slice (some ⟨g4, 0, none⟩) (hn + 1) cp4) = w5 := ⟨_, rfl⟩
      rw [hw5] at M5x ⊢
      have M5 := Lib.hid M5x
      clear M4 M5x hw5 x0 x1 y0 y1 ltx
      have hsl := (Own.reads capC_len (M5.out.row 4 rfl)).1
      have hval := valid_ref_any (some ⟨g4, 0, none⟩) (hn + 1) cp4 GA gn gc L' r.gs w5 hsl (HR.out.gs.held M5.out.held) (by omega) hgn hnm
      rw [HVR.out] at hval
      have HVAL := Lib.hid hval
      clear hval hsl
      refine HVAL.out.mono ?_
      rintro e w6 ⟨rfl, h6⟩
      have M6 := Lib.hid (M5.out.keep h6)
      clear M5 h6 HVAL
      obtain ⟨⟨c0, c1⟩, ⟨e0, e1⟩, ltc⟩ := M6.out.box2 0 rfl
      obtain ⟨⟨m0, m1, m2, m3, m4, m5, m6, m7, m8, m9, m10⟩, _, ltm⟩ := M6.out.box11 1 rfl
      obtain ⟨⟨d0, d1⟩, ⟨f0, f1⟩, ltd⟩ := M6.out.box2 2 rfl
      obtain ⟨⟨x0, x1⟩, ⟨y0, y1⟩, ltx⟩ := M6.out.box2 3 rfl
      cases v
      · go_wp2
        have MF := (M6.out.put 2 rfl 0 (.slice HA hn hc)).put 2 rfl 1 (.slice GA gn gc)
        refine bodyPost_ret (Bx.res_ct Try.results40 rfl (reg_load (MF.blk 2 rfl))) rfl ?_
        rw [HX.out]
        exact ⟨_, _, _, _, _, _, rfl, MF.held, HR.out.held MF.held, hcp⟩
      · go_wp2
        have MF := (M6.out.put 2 rfl 0 (.slice (some ⟨g4, 0, none⟩) (hn + 1) cp4)).put 2 rfl 1 (.slice GA gn gc)
        refine bodyPost_ret (Bx.res_ct Try.results40 rfl (reg_load (MF.blk 2 rfl))) rfl ?_
        rw [HX.out]
        have hsf := (Own.reads capC_len (MF.row 4 rfl)).1
        exact ⟨_, _, _, _, _, _, rfl, MF.held, ⟨by first | exact hsf | (rw [HLL.out] at hsf; exact hsf), HR.out.gs.held MF.held⟩, Caps.hosts (MF.row 4 rfl) hcp⟩
  · obtain ⟨ia, rfl⟩ : ∃ ia : Nat, a = ia := ⟨a.toNat, by omega⟩
    have hia : ia < hn := by omega
    have hia2 : (ia : Int) < hn := by omega
    have hia3 : ¬ (ia : Int) < 0 := by omega
    obtain ⟨L', hL'⟩ : ∃ L', r.hs.set ia ⟨cm, cc, up⟩ = L' := ⟨_, rfl⟩
    have HPUT : Is (putH r.hs (ia : Int) ⟨cm, cc, up⟩) L' := ⟨by unfold putH; rw [if_neg (by rw [HN.out]; exact t7), Int.toNat_natCast, hL']⟩
    have HL' := Lib.hid hL'
    have HLL : Is L'.length hn := ⟨by rw [← hL', List.length_set, HN.out]⟩
    obtain ⟨v, hv⟩ : ∃ v, validR ⟨L', r.gs⟩ = v := ⟨_, rfl⟩
    have HVR : Is (validR ⟨L', r.gs⟩) v := ⟨hv⟩
    have HX : Is (setHost r ⟨k, nm, (ia : Int), b, ⟨dr, dl, dc, dg⟩, ⟨cm, cc, up⟩⟩) (if v = true then (⟨L', r.gs⟩, 0) else (r, 4200)) := ⟨setHost_ok HBAD.out t6 HPUT.out hv⟩
    have t7b : ((ia : Int) == (hn : Int)) = false := by simp; omega
    have t7c : (ia == hn) = false := by simp; omega
    clear t6 t7 hL' hv HPUT
    go_enter Try.func40, Try.ntmps40
    go_upto_region 1 with (fail)
    rw [HEQ.out]
    go_wp2_with fail
    (with_reducible refine (HV _).out.mono ?_)
    rintro e w3 ⟨rfl, h3⟩
    have M3 := Lib.hid (M.out.keep h3)
    clear M h3
    clear c0 c1 e0 e1 m0 m1 m2 m3 m4 m5 m6 m7 m8 m9 m10 d0 d1 f0 f1 ltc ltm ltd
    obtain ⟨⟨c0, c1⟩, ⟨e0, e1⟩, ltc⟩ := M3.out.box2 0 rfl
    obtain ⟨⟨m0, m1, m2, m3, m4, m5, m6, m7, m8, m9, m10⟩, _, ltm⟩ := M3.out.box11 1 rfl
    obtain ⟨⟨d0, d1⟩, ⟨f0, f1⟩, ltd⟩ := M3.out.box2 2 rfl
    go_wp2
    go_cut [6] (fun xp wx => ∃ xb A1 cap1, xp = .pointer (some ⟨xb, 0, none⟩) ∧ hn ≤ cap1 ∧ Mem w wx [.box w.heap.size #[.slice HA hn hc, .slice GA gn gc] 37, .box (w.heap.size + 1) #[.int .i64 k, .string nm, .int .i64 (ia : Int), .int .i64 b, .int .i64 dr, .int .i64 dl, .int .i64 dc, .int .i64 dg, .int .i64 cm, .int .i64 cc, .bool up] 27, .box (w.heap.size + 1 + 1) #[.slice none 0 0, .slice none 0 0] 37, .box xb #[.slice A1 hn cap1, .slice GA gn gc] 37, .row 25 3 capC w.heap.size (.slice A1 hn cap1) r.hs])
    case first =>
      have MA := Lib.hid ((M3.out.emptyRow (e := 25) (s := 3) (f := capC) (b := w3.heap.size) rfl).drew)
      have MB := Lib.hid (((M3.out.emptyRow (e := 25) (s := 3) (f := capC) (b := w3.heap.size) rfl).alloc' (b := w3.heap.size + 1) (by simp) #[.slice none 0 0, .slice none 0 0] 37).drew)
      have MC := Lib.hid (((M3.out.alloc #[.slice none 0 0, .slice none 0 0] 37).emptyRow (e := 25) (s := 3) (f := capC) (b := w3.heap.size + 1) (by simp)).drew)
      have HC := Lib.hid (fun w' (q : Held w3 w') => And.intro (q.cell c0) (q.cell c1))
      go_region_held3 (fun w' => w'.cell? ⟨w.heap.size, 0, none⟩ = some (.slice HA hn hc) ∧ w'.cell? ⟨w.heap.size, 1, none⟩ = some (.slice GA gn gc))
        (first | exact HC.out _ (Held.refl _).drew | exact HC.out _ ((Held.refl w3).alloc _).drew | exact HC.out _ (((Held.refl w3).alloc _).alloc _).drew | exact Hid.out (by assumption))
        (first | (have M5 := MA.out; refine Mem.step_cat M5 3 rfl (by rfl) _ _ _ (by rfl) _ 24 Try.underlying34 info_cap (by rfl) (by decide) capC_len capC_one r.hs HA hn _ (by rfl) (by rfl) (HR.out.hs.held (Mem.held (by assumption))) rfl (by omega) (by decide) ?_; intro A5 cap5 w5 M6 hA5; clear M5; simp only [Nat.zero_add, List.nil_append] at M6 ⊢; have kz := Lib.hid (M6.box2 0 rfl).1; have ky := Lib.hid ((M6.alloc #[.slice A5 hn cap5, .slice GA gn gc] 37).box2 0 rfl).1; have kx := Lib.hid ((M6.alloc #[.slice none 0 0, .slice none 0 0] 37).box2 0 rfl).1; have MX := Lib.hid ((M6.alloc #[.slice A5 hn cap5, .slice GA gn gc] 37).sel [0, 1, 2, 4, 3] (by decide))) | (have M5 := MB.out; refine Mem.step_cat M5 3 rfl (by rfl) _ _ _ (by rfl) _ 24 Try.underlying34 info_cap (by rfl) (by decide) capC_len capC_one r.hs HA hn _ (by rfl) (by rfl) (HR.out.hs.held (Mem.held (by assumption))) rfl (by omega) (by decide) ?_; intro A5 cap5 w5 M6 hA5; clear M5; simp only [Nat.zero_add, List.nil_append] at M6 ⊢; obtain ⟨⟨z0, z1⟩, ⟨zf0, zf1⟩, zlt⟩ := M6.box2 4 rfl; have M7 := (M6.put 4 rfl 0 (.slice A5 hn cap5)).put 4 rfl 1 (.slice GA gn gc); have kz := Lib.hid (M7.box2 0 rfl).1; have ky := Lib.hid (M6.box2 0 rfl).1; have MX := Lib.hid (M7.sel [0, 1, 2, 4, 3] (by decide))) | (have M5 := MC.out; refine Mem.step_cat M5 4 rfl (by rfl) _ _ _ (by rfl) _ 24 Try.underlying34 info_cap (by rfl) (by decide) capC_len capC_one r.hs HA hn _ (by rfl) (by rfl) (HR.out.hs.held (Mem.held (by assumption))) rfl (by omega) (by decide) ?_; intro A5 cap5 w5 M6 hA5; clear M5; simp only [Nat.zero_add, List.nil_append] at M6 ⊢; obtain ⟨⟨z0, z1⟩, ⟨zf0, zf1⟩, zlt⟩ := M6.box2 3 rfl; have M7 := (M6.put 3 rfl 0 (.slice A5 hn cap5)).put 3 rfl 1 (.slice GA gn gc); have kz := Lib.hid (M7.box2 0 rfl).1; have ky := Lib.hid (M6.box2 0 rfl).1; have MX := Lib.hid (M7.sel [0, 1, 2, 3, 4] (by decide))))
      all_goals
        go_wp2
        go_meet
        case rel => exact ⟨_, _, _, rfl, by have := (MX.out.row 4 rfl).shape; obtain ⟨A9, c9, e9, q9, _⟩ := this; injection e9 with e9 e10 e11; omega, MX.out⟩
    case rest =>
      obtain ⟨xb, A1, cp1, rfl, hcp1, Mx⟩ := hcut
      have M8 := Lib.hid Mx
      clear Mx M3 HV
      clear c0 c1 e0 e1 m0 m1 m2 m3 m4 m5 m6 m7 m8 m9 m10 d0 d1 f0 f1 ltc ltm ltd
      obtain ⟨⟨c0, c1⟩, ⟨e0, e1⟩, ltc⟩ := M8.out.box2 0 rfl
      obtain ⟨⟨m0, m1, m2, m3, m4, m5, m6, m7, m8, m9, m10⟩, _, ltm⟩ := M8.out.box11 1 rfl
      obtain ⟨⟨d0, d1⟩, ⟨f0, f1⟩, ltd⟩ := M8.out.box2 2 rfl
      obtain ⟨⟨x0, x1⟩, ⟨y0, y1⟩, ltx⟩ := M8.out.box2 3 rfl
      have nx0 : w.heap.size ≠ xb := M8.out.ne 0 3 rfl rfl (by decide)
      have nx1 : w.heap.size + 1 ≠ xb := M8.out.ne 1 3 rfl rfl (by decide)
      have nx2 : w.heap.size + 1 + 1 ≠ xb := M8.out.ne 2 3 rfl rfl (by decide)
      obtain ⟨g4, x4, hA1, hge, hg4, hx4, hcell⟩ := M8.out.slot 4 rfl capC_len (by decide) (k := ia) (by rw [HN.out]; exact hia)
      subst hA1
      have hne : ¬ g4 = xb := fun e => M8.out.neRow 3 4 rfl rfl (by decide) (by simp [Value.ownBlock, e])
      have hne2 : ¬ xb = g4 := fun e => hne e.symm
      have n0 := (hcell 0 (by decide)).1
      have n1 := (hcell 1 (by decide)).1
      have n2 := (hcell 2 (by decide)).1
      have p0 := (hcell 0 (by decide)).2 _ rfl
      have p1 := (hcell 1 (by decide)).2 _ rfl
      have p2 := (hcell 2 (by decide)).2 _ rfl
      rw [Nat.add_zero] at n0 p0
      have hb4 : ia < r.hs.length := by rw [HN.out]; exact hia
      have hx5 : (r.hs.set ia ⟨cm, x4.c, x4.up⟩)[ia]? = some ⟨cm, x4.c, x4.up⟩ := List.getElem?_set_self hb4
      have hx6 : ((r.hs.set ia ⟨cm, x4.c, x4.up⟩).set ia ⟨cm, cc, x4.up⟩)[ia]? = some ⟨cm, cc, x4.up⟩ := List.getElem?_set_self (by rw [List.length_set]; exact hb4)
      have M4a := M8.out.putAt 4 rfl capC_len hx4 (j := 0) (by decide) (.int .i64 cm) ⟨cm, x4.c, x4.up⟩ rfl
      have M4b := M4a.putAt 4 rfl capC_len hx5 (j := 1) (by decide) (.int .i64 cc) ⟨cm, cc, x4.up⟩ rfl
      have M4c := M4b.putAt 4 rfl capC_len hx6 (j := 2) (by decide) (.bool up) ⟨cm, cc, up⟩ rfl
      simp only [List.set_set, HL'.out] at M4c
      dsimp only [List.set] at M4c
      rw [Nat.add_zero] at M4c
      have M5y := Lib.hid M4c
      clear M4a M4b M4c hcell hx4 hx5 hx6 hb4
      go_wp2_with fail
      obtain ⟨w5, hw5⟩ : ∃ w5, ((wc.setCell ⟨g4, ia * 3, none⟩ (.int .i64 cm)).setCell ⟨g4, ia * 3 + 1, none⟩ (.int .i64 cc)).setCell ⟨g4, ia * 3 + 2, none⟩ (.bool up) = w5 := ⟨_, rfl⟩
      have M5x := M5y.out
      rw [hw5] at M5x ⊢
      have M5 := Lib.hid M5x
      clear M8 M5x M5y hw5 c0 c1 e0 e1 m0 m1 m2 m3 m4 m5 m6 m7 m8 m9 m10 d0 d1 f0 f1 ltc ltm ltd x0 x1 y0 y1 ltx n0 n1 n2 p0 p1 p2
      have hsl := (Own.reads capC_len (M5.out.row 4 rfl)).1
      have hval := valid_ref_any (some ⟨g4, 0, none⟩) (hn) cp1 GA gn gc L' r.gs w5 hsl (HR.out.gs.held M5.out.held) (by omega) hgn hnm
      rw [HVR.out] at hval
      have HVAL := Lib.hid hval
      clear hval hsl
      refine HVAL.out.mono ?_
      rintro e w6 ⟨rfl, h6⟩
      have M6 := Lib.hid (M5.out.keep h6)
      clear M5 h6 HVAL
      obtain ⟨⟨c0, c1⟩, ⟨e0, e1⟩, ltc⟩ := M6.out.box2 0 rfl
      obtain ⟨⟨m0, m1, m2, m3, m4, m5, m6, m7, m8, m9, m10⟩, _, ltm⟩ := M6.out.box11 1 rfl
      obtain ⟨⟨d0, d1⟩, ⟨f0, f1⟩, ltd⟩ := M6.out.box2 2 rfl
      obtain ⟨⟨x0, x1⟩, ⟨y0, y1⟩, ltx⟩ := M6.out.box2 3 rfl
      cases v
      · go_wp2
        have MF := (M6.out.put 2 rfl 0 (.slice HA hn hc)).put 2 rfl 1 (.slice GA gn gc)
        refine bodyPost_ret (Bx.res_ct Try.results40 rfl (reg_load (MF.blk 2 rfl))) rfl ?_
        rw [HX.out]
        exact ⟨_, _, _, _, _, _, rfl, MF.held, HR.out.held MF.held, hcp⟩
      · go_wp2
        have MF := (M6.out.put 2 rfl 0 (.slice (some ⟨g4, 0, none⟩) (hn) cp1)).put 2 rfl 1 (.slice GA gn gc)
        refine bodyPost_ret (Bx.res_ct Try.results40 rfl (reg_load (MF.blk 2 rfl))) rfl ?_
        rw [HX.out]
        have hsf := (Own.reads capC_len (MF.row 4 rfl)).1
        exact ⟨_, _, _, _, _, _, rfl, MF.held, ⟨by first | exact hsf | (rw [HLL.out] at hsf; exact hsf), HR.out.gs.held MF.held⟩, Caps.hosts (MF.row 4 rfl) hcp⟩
end Jn
end Go.Proofs.Ytmmnanmegdflgaa
