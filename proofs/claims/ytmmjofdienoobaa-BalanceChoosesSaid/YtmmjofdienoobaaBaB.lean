/-
  Contracts: Rebalance (chapter 40), program and reference.
-/
import Derived.Test.YtmmjofdienoobaaBaF
set_option linter.unusedVariables false
set_option linter.unusedSimpArgs false
set_option maxRecDepth 100000
namespace Go.Proofs.Ytmmjofdienoobaa
open Go.RowKit
namespace Ba
open Ad Adm
/-- What Rebalance hands back. -/
def RbTo (r : List Mv × List Int) (w : World) (e : Ending) (w' : World) : Prop :=
  ∃ A n cap B m c, e = .returned (.tuple #[.slice A n cap, .slice B m c]) ∧ Sl 3 mvC w' A n r.1 ∧ Sl 1 inC w' B m r.2 ∧ Held w w'
theorem RbTo.no {r : List Mv × List Int} {w w' : World} (hr : r = ([], [])) (h : Held w w') : RbTo r w (.returned (.tuple #[.slice none 0 0, .slice none 0 0])) w' := by
  subst hr; exact ⟨none, 0, 0, none, 0, 0, rfl, Sl.nil w' none, Sl.nil w' none, h⟩
theorem rebalance_no {H : List Hc} {L : List Dem} {on : List Int} {most : Int} (h : place H L on = false) : rebalance H L on most = ([], []) := by unfold rebalance; rw [h]; rfl
theorem rebalance_yes {H : List Hc} {L : List Dem} {on : List Int} {most : Int} (h : place H L on = true) : rebalance H L on most = rb H L (min most 10).toNat on := by unfold rebalance; rw [h]; rfl
theorem rb_no {H : List Hc} {L : List Dem} {x : List Int} (h : (improve H L x).2 = false) : ∀ k, rb H L k x = ([], x)
  | 0 => rfl
  | k + 1 => by rw [rb, h]; rfl
theorem rb_yes {H : List Hc} {L : List Dem} {x : List Int} {m : Mv} {k : Nat} (h : improve H L x = (m, true)) : rb H L (k + 1) x = (m :: (rb H L k (mvd x m)).1, (rb H L k (mvd x m)).2) := by
  rw [rb, h]; rfl
/-- A move moves a guest that there is. -/
theorem impTo_g (H : List Hc) (L : List Dem) (on : List Int) (least : Int) : ∀ k, k ≤ on.length → (impTo H L on least k).found = true → 0 ≤ (impTo H L on least k).best.g ∧ (impTo H L on least k).best.g < on.length ∧ 0 ≤ (impTo H L on least k).best.t ∧ (impTo H L on least k).best.t < H.length
  | 0, _, h => by simp [impTo] at h
  | k + 1, hk, h => by
    obtain ⟨fr, hfr⟩ : ∃ fr, on[k]? = some fr := ⟨_, List.getElem?_eq_getElem (by omega)⟩
    rw [impTo_next hfr] at h ⊢
    have key : ∀ t, t ≤ H.length → (impIn H L on k fr (impTo H L on least k) t).found = true → 0 ≤ (impIn H L on k fr (impTo H L on least k) t).best.g ∧ (impIn H L on k fr (impTo H L on least k) t).best.g < on.length ∧ 0 ≤ (impIn H L on k fr (impTo H L on least k) t).best.t ∧ (impIn H L on k fr (impTo H L on least k) t).best.t < H.length := by
      intro t
      induction t with
      | zero => intro _ h; exact impTo_g H L on least k (by omega) h
      | succ t ih =>
        intro ht h
        rw [impIn] at h ⊢
        unfold imp1 at h ⊢
        split at h
        · rename_i h1; rw [if_pos h1]; exact ih (by omega) h
        · rename_i h1
          rw [if_neg h1]
          split at h
          · rename_i h2; rw [if_pos h2]; simp only; omega
          · rename_i h2; rw [if_neg h2]; exact ih (by omega) h
    exact key _ (Nat.le_refl _) h
theorem improve_g {H : List Hc} {L : List Dem} {x : List Int} {m : Mv} (h : improve H L x = (m, true)) : 0 ≤ m.g ∧ m.g < x.length ∧ 0 ≤ m.t ∧ m.t < H.length := by
  cases hs : (spread H L x).2
  · rw [improve_no hs] at h; injection h with _ h; cases h
  · rw [improve_yes hs] at h
    injection h with h1 h2
    rw [← h1]
    exact impTo_g H L x _ _ (Nat.le_refl _) h2
theorem own_none {α : Type} {e : TypeId} {s : Nat} {f : α → List Value} {base : Nat} {w : World} {A : Option Addr} {n cap : Nat} {L : List α} (h : Own e s f base w (.slice A n cap) L) (hA : A = none) : L.length = 0 := by
  subst hA
  rcases h.2 with ⟨_, h0⟩ | ⟨g, cp, cur, he, _⟩
  · exact h0
  · cases he
def slen : Value → Nat
  | .slice _ n _ => n
  | _ => 0
set_option maxHeartbeats 2000000 in
theorem rebalance_any (A : Option Addr) (n cap : Nat) (A2 : Option Addr) (n2 cap2 : Nat) (A3 : Option Addr) (n3 cap3 : Nat) (most : Int) (H : List Hc) (L : List Dem) (on : List Int) (w : World)
    (hh : Sl 3 hcC w A n H) (hl : Sl 4 demC w A2 n2 L) (ho : Sl 1 inC w A3 n3 on) (hA3 : A3 = none → n3 = 0) :
    Calls Try.prog 22 #[.slice A n cap, .slice A2 n2 cap2, .slice A3 n3 cap3, .int .i64 most] w (RbTo (rebalance H L on most) w) := by
  have HH := Lib.hid hh
  have HL := Lib.hid hl
  have HO := Lib.hid ho
  have HV := Lib.hid (valid_any A n cap A2 n2 cap2 A3 n3 cap3 H L on w hh hl ho)
  obtain ⟨p, hp⟩ : ∃ p, place H L on = p := ⟨_, rfl⟩
  rw [hp] at HV
  cases p
  · have HP := Lib.hid (rebalance_no (most := most) hp)
    clear hp hh hl ho
    go_enter Try.func22, Try.ntmps22
    go_wp2_with (go_at_call 30; refine HV.out.mono ?_; rintro e w1 ⟨rfl, h1⟩)
    go_ret2
    exact RbTo.no HP.out h1
  · have HP := Lib.hid (rebalance_yes (most := most) hp)
    have hbd := place_bd hp
    rw [hh.1, hl.1, ho.1] at hbd
    have hn1 : (n : Int) ≤ 6 := by omega
    have hn3 : (n3 : Int) ≤ 16 := by omega
    have HCL := Lib.hid (fun w' (q : Held w w') => SlcIn.clone_any inC_len inC_one A3 n3 cap3 on w' (HO.out.held q) hA3 (by omega))
    have HIM := Lib.hid (fun (x : List Int) (B : Option Addr) (c : Nat) w' (q : Held w w') (hx : Sl 1 inC w' B n3 x) (hB : B = none → n3 = 0) => improve_any A n cap A2 n2 cap2 B n3 c H L x w' (HH.out.held q) (HL.out.held q) hx hB (by omega) (by omega))
    obtain ⟨N, hN⟩ : ∃ N, (min most 10).toNat = N := ⟨_, rfl⟩
    rw [hN] at HP
    have hN1 : N ≤ 10 := by omega
    have HMN : Hid (∀ k : Nat, (k : Int) < (if 10 < most then 10 else most) ↔ k < N) := fun k => by rw [← hN]; split <;> omega
    obtain ⟨R, hR⟩ : ∃ R, rb H L N on = R := ⟨_, rfl⟩
    rw [hR] at HP
    rw [HP.out]
    have HR := Lib.hid hR
    clear hp hh hl ho hA3 hbd hN hR HP
    obtain ⟨q, hq⟩ : ∃ q, (if 10 < most then (10 : Int) else most) = q := ⟨_, rfl⟩
    rw [hq] at HMN
    have HQ := Lib.hid hq
    clear hq
    go_enter Try.func22, Try.ntmps22
    go_wp2_with (first | (go_at_call 30; refine HV.out.mono ?_; rintro e w1 ⟨rfl, h1⟩) | (go_at_call 31; refine (HCL.out _ h1).mono ?_; rintro e w3 ⟨v3, rfl, ho3, h3⟩; have M3 := Lib.hid (((Mem.of h1).own h3 ho3).nilRow (e := 37) (s := 3) (f := mvC)); obtain ⟨A5, cap5, rfl, _⟩ := ho3.shape; have HA5 : Hid (A5 = none → n3 = 0) := (fun hn => HO.out.1.symm.trans (own_none ho3 hn)); clear ho3))
    go_loopw [11] (fun v wr => ∃ (ms : List Mv) (x : List Int), ms.length ≤ N ∧ x.length = n3 ∧ R = (ms ++ (rb H L (N - ms.length) x).1, (rb H L (N - ms.length) x).2) ∧ Mem w wr [.row 3 1 inC w.heap.size (.slice A5 on.length cap5) x, .row 37 3 mvC w.heap.size v ms]) (fun v _ => N - slen v)
    case atStart => exact ⟨[], on, Nat.zero_le _, HO.out.1, HR.out.symm, M3.out⟩
    case round =>
      obtain ⟨ms, x, hms, hx, hRR, M⟩ := hrel
      have M4 := Lib.hid M
      have HX := Lib.hid hx
      have HRR := Lib.hid hRR
      have HOL : Hid (on.length = n3) := HO.out.1
      obtain ⟨A6, cap6, rfl, _⟩ := (M.row 1 rfl).shape
      clear M M3 hRR hx
      obtain ⟨ln, hln⟩ : ∃ ln, ms.length = ln := ⟨_, rfl⟩
      rw [hln] at HRR hms M4 ⊢
      rw [HOL.out] at M4 ⊢
      have HLN := Lib.hid hln
      clear hln
      have HSX := Lib.hid (Own.reads inC_len (M4.out.row 0 rfl)).1
      have hqq := HMN.out ln
      by_cases hlt : ln < N
      · have h10 : (ln : Int) < q := hqq.2 hlt
        have HIX := Lib.hid (HIM.out x A5 cap5 wr M4.out.held HSX.out HA5.out)
        obtain ⟨im, him⟩ : ∃ im, improve H L x = im := ⟨_, rfl⟩
        rw [him] at HIX
        obtain ⟨mv, ok⟩ := im
        simp only at HIX
        clear hqq
        cases ok
        · have HE : Hid (R = (ms, x)) := show _ = _ by rw [HRR.out, rb_no (by rw [him])]; simp
          clear him
          by_cases hm : (10 : Int) < most
          · have hq1 : q = 10 := by rw [← HQ.out, if_pos hm]
            subst hq1
            go_wp2_with (go_at_call 24; refine HIX.out.mono ?_; rintro e w7 ⟨rfl, h7⟩; have M7 := Lib.hid ((M4.out.keep h7).skip (.cells #[.int .i64 mv.g, .int .i64 mv.f, .int .i64 mv.t] 37)))
            go_ret2
            rw [HE.out]
            exact ⟨_, _, _, _, _, _, rfl, (Own.reads mvC_len (M7.out.row 1 rfl)).1, (Own.reads inC_len (M7.out.row 0 rfl)).1, M7.out.held⟩
          · have hq1 : q = most := by rw [← HQ.out, if_neg hm]
            subst hq1
            go_wp2_with (go_at_call 24; refine HIX.out.mono ?_; rintro e w7 ⟨rfl, h7⟩; have M7 := Lib.hid ((M4.out.keep h7).skip (.cells #[.int .i64 mv.g, .int .i64 mv.f, .int .i64 mv.t] 37)))
            go_ret2
            rw [HE.out]
            exact ⟨_, _, _, _, _, _, rfl, (Own.reads mvC_len (M7.out.row 1 rfl)).1, (Own.reads inC_len (M7.out.row 0 rfl)).1, M7.out.held⟩
        · have hg := improve_g him
          rw [HX.out] at hg
          obtain ⟨gd, hgd⟩ := Int.eq_ofNat_of_zero_le hg.1
          obtain ⟨mg, mf, mt⟩ := mv
          simp only at hg hgd
          subst hgd
          have HE : Hid (R = ((ms ++ [⟨gd, mf, mt⟩]) ++ (rb H L (N - (ln + 1)) (x.set gd mt)).1, (rb H L (N - (ln + 1)) (x.set gd mt)).2)) := show _ = _ by
            rw [HRR.out, show N - ln = (N - (ln + 1)) + 1 by omega, rb_yes him]
            unfold mvd
            simp
          have hgn : gd < n3 := by omega
          have hg0 : ¬ (gd : Int) < 0 := by omega
          have hg1 : (gd : Int) < n3 := by omega
          obtain ⟨xo, hxo⟩ : ∃ xo, x[gd]? = some xo := ⟨_, List.getElem?_eq_getElem (by rw [HX.out]; exact hgn)⟩
          have HXO := Lib.hid hxo
          obtain ⟨g5, c5, e5, _⟩ := own_blk (M4.out.row 0 rfl) (by rw [HX.out]; omega)
          injection e5 with e5 e6 e7
          subst e5
          clear e6 e7 him hg hxo
          by_cases hm : (10 : Int) < most
          · have hq1 : q = 10 := by rw [← HQ.out, if_pos hm]
            subst hq1
            go_wp2_with (first | (go_at_call 24; refine HIX.out.mono ?_; rintro e w7 ⟨rfl, h7⟩; have M7 := Lib.hid ((M4.out.keep h7).alloc #[.int .i64 gd, .int .i64 mf, .int .i64 mt] 37); obtain ⟨y0, yf, ylt⟩ := slot1 M7.out 0 rfl HXO.out; have M8 := Lib.hid (put1 M7.out 0 rfl HXO.out mt); obtain ⟨⟨c0, c1, c2⟩, _, _⟩ := M8.out.box3 2 rfl) | (at_builtin; refine Mem.wp_app (M8.out.skip _) 1 rfl rfl _ _ _ rfl _ 24 Try.underlying33 info_mv rfl (by decide) mvC_len mvC_one ⟨gd, mf, mt⟩ ⟨w7.heap.size + 1, 0, none⟩ 1 rfl rfl (cells_new _ (by simp) _ _) ln HLN.out (by omega) (by decide) ?_; intro g9 cp9 w9 M9; have M10 := Lib.hid M9; clear M9))
            go_roundw
            case rel => exact ⟨ms ++ [(⟨(gd : Int), mf, mt⟩ : Mv)], x.set gd mt, by rw [List.length_append, HLN.out]; simp; omega, by rw [List.length_set]; exact HX.out, by rw [List.length_append, HLN.out]; exact HE.out, M10.out.take 2⟩
            case measure => simp only [slen]; omega
          · have hq1 : q = most := by rw [← HQ.out, if_neg hm]
            subst hq1
            go_wp2_with (first | (go_at_call 24; refine HIX.out.mono ?_; rintro e w7 ⟨rfl, h7⟩; have M7 := Lib.hid ((M4.out.keep h7).alloc #[.int .i64 gd, .int .i64 mf, .int .i64 mt] 37); obtain ⟨y0, yf, ylt⟩ := slot1 M7.out 0 rfl HXO.out; have M8 := Lib.hid (put1 M7.out 0 rfl HXO.out mt); obtain ⟨⟨c0, c1, c2⟩, _, _⟩ := M8.out.box3 2 rfl) | (at_builtin; refine Mem.wp_app (M8.out.skip _) 1 rfl rfl _ _ _ rfl _ 24 Try.underlying33 info_mv rfl (by decide) mvC_len mvC_one ⟨gd, mf, mt⟩ ⟨w7.heap.size + 1, 0, none⟩ 1 rfl rfl (cells_new _ (by simp) _ _) ln HLN.out (by omega) (by decide) ?_; intro g9 cp9 w9 M9; have M10 := Lib.hid M9; clear M9))
            go_roundw
            case rel => exact ⟨ms ++ [(⟨(gd : Int), mf, mt⟩ : Mv)], x.set gd mt, by rw [List.length_append, HLN.out]; simp; omega, by rw [List.length_set]; exact HX.out, by rw [List.length_append, HLN.out]; exact HE.out, M10.out.take 2⟩
            case measure => simp only [slen]; omega
      · have h10 : ¬ (ln : Int) < q := fun h => hlt (hqq.1 h)
        have HE : Hid (R = (ms, x)) := show _ = _ by rw [HRR.out, show N - ln = 0 by omega]; simp [rb]
        clear hqq
        by_cases hm : (10 : Int) < most
        · have hq1 : q = 10 := by rw [← HQ.out, if_pos hm]
          subst hq1
          go_wp2
          go_ret2
          rw [HE.out]
          exact ⟨_, _, _, _, _, _, rfl, (Own.reads mvC_len (M4.out.row 1 rfl)).1, (Own.reads inC_len (M4.out.row 0 rfl)).1, M4.out.held⟩
        · have hq1 : q = most := by rw [← HQ.out, if_neg hm]
          subst hq1
          go_wp2
          go_ret2
          rw [HE.out]
          exact ⟨_, _, _, _, _, _, rfl, (Own.reads mvC_len (M4.out.row 1 rfl)).1, (Own.reads inC_len (M4.out.row 0 rfl)).1, M4.out.held⟩
end Ba
end Go.Proofs.Ytmmjofdienoobaa
