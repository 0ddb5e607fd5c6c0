/-
  Contracts: Rebalance (chapter 40), of the reference.
-/
import Derived.Test.YtmmjofdienoobaaBaB
set_option linter.unusedVariables false
set_option linter.unusedSimpArgs false
set_option maxRecDepth 100000
namespace Go.Proofs.Ytmmjofdienoobaa
open Go.RowKit
namespace Ba
open Ad Adm
set_option maxHeartbeats 2000000 in
theorem rebalance_ref (A : Option Addr) (n cap : Nat) (A2 : Option Addr) (n2 cap2 : Nat) (A3 : Option Addr) (n3 cap3 : Nat) (most : Int) (H : List Hc) (L : List Dem) (on : List Int) (w : World)
    (hh : Sl 3 hcC w A n H) (hl : Sl 4 demC w A2 n2 L) (ho : Sl 1 inC w A3 n3 on) :
    Calls Try.prog 41 #[.slice A n cap, .slice A2 n2 cap2, .slice A3 n3 cap3, .int .i64 most] w (RbTo (rebalance H L on most) w) := by
  have HH := Lib.hid hh
  have HL := Lib.hid hl
  have HO := Lib.hid ho
  have HV := Lib.hid (place_any A n cap A2 n2 cap2 A3 n3 cap3 H L on w hh hl ho)
  obtain ⟨p, hp⟩ : ∃ p, place H L on = p := ⟨_, rfl⟩
  rw [hp] at HV
  cases p
  · have HP := Lib.hid (rebalance_no (most := most) hp)
    clear hp hh hl ho
    go_enter Try.func41, Try.ntmps41
    go_wp2_with (go_at_call 53; refine HV.out.mono ?_; rintro e w1 ⟨rfl, h1⟩)
    go_ret2
    exact RbTo.no HP.out h1
  · have HP := Lib.hid (rebalance_yes (most := most) hp)
    have hbd := place_bd hp
    rw [hh.1, hl.1, ho.1] at hbd
    have hn1 : (n : Int) ≤ 6 := by omega
    have hn3 : (n3 : Int) ≤ 16 := by omega
    have HIM := Lib.hid (fun (x : List Int) (B : Option Addr) (c : Nat) w' (q : Held w w') (hx : Sl 1 inC w' B n3 x) => improve_ref A n cap A2 n2 cap2 B n3 c H L x w' (HH.out.held q) (HL.out.held q) hx)
    obtain ⟨N, hN⟩ : ∃ N, (min most 10).toNat = N := ⟨_, rfl⟩
    rw [hN] at HP
    have hN1 : N ≤ 10 := by omega
    have HMN : Hid (∀ k : Nat, ((k : Int) < most ∧ (k : Int) < 10) ↔ k < N) := fun k => by rw [← hN]; omega
    obtain ⟨R, hR⟩ : ∃ R, rb H L N on = R := ⟨_, rfl⟩
    rw [hR] at HP
    rw [HP.out]
    have HR := Lib.hid hR
    clear hp hh hl ho hbd hN hR HP
    go_enter Try.func41, Try.ntmps41
    go_wp2_with (first | (go_at_call 53; refine HV.out.mono ?_; rintro e w1 ⟨rfl, h1⟩; have M1 := Lib.hid (((Mem.of h1).nilRow (e := 37) (s := 3) (f := mvC)).emptyRow (b := w1.heap.size) rfl (e := 3) (s := 1) (f := inC))) | (at_builtin; refine Mem.wp_cat M1.out 1 rfl rfl _ _ _ rfl _ 8 Try.underlying22 info_int rfl (by decide) inC_len inC_one on A3 n3 cap3 rfl rfl (HO.out.held M1.out.held) rfl (by omega) (by decide) ?_; intro A8 cap8 w8 M8 hA8; simp only [Nat.zero_add, List.nil_append] at M8 ⊢; have M9 := Lib.hid M8; clear M8))
    go_loopw [10, 11] (fun v u wr => ∃ (ms : List Mv) (x : List Int), ms.length ≤ N ∧ x.length = n3 ∧ R = (ms ++ (rb H L (N - ms.length) x).1, (rb H L (N - ms.length) x).2) ∧ Mem w wr [.row 37 3 mvC w.heap.size v ms, .row 3 1 inC w.heap.size u x]) (fun v _ _ => N - slen v)
    case atStart => exact ⟨[], on, Nat.zero_le _, HO.out.1, HR.out.symm, M9.out⟩
    case round =>
      obtain ⟨ms, x, hms, hx, hRR, M⟩ := hrel
      have M4 := Lib.hid M
      have HX := Lib.hid hx
      have HRR := Lib.hid hRR
      obtain ⟨A6, cap6, rfl, _⟩ := (M.row 0 rfl).shape
      obtain ⟨A5, cap5, rfl, _⟩ := (M.row 1 rfl).shape
      clear M M9 M1 hRR hx
      obtain ⟨ln, hln⟩ : ∃ ln, ms.length = ln := ⟨_, rfl⟩
      rw [hln] at HRR hms M4 ⊢
      rw [HX.out] at M4 ⊢
      have HLN := Lib.hid hln
      clear hln
      have HSX := Lib.hid (Own.reads inC_len (M4.out.row 1 rfl)).1
      have hqq := HMN.out ln
      by_cases hlt : ln < N
      · obtain ⟨h10, h11⟩ := hqq.2 hlt
        have HIX := Lib.hid (HIM.out x A5 cap5 wr M4.out.held HSX.out)
        obtain ⟨im, him⟩ : ∃ im, improve H L x = im := ⟨_, rfl⟩
        rw [him] at HIX
        obtain ⟨mv, ok⟩ := im
        simp only at HIX
        clear hqq
        cases ok
        · have HE : Hid (R = (ms, x)) := show _ = _ by rw [HRR.out, rb_no (by rw [him])]; simp
          clear him
          go_wp2_with (go_at_call 40; refine HIX.out.mono ?_; rintro e w7 ⟨rfl, h7⟩; have M7 := Lib.hid ((M4.out.keep h7).skip (.cells #[.int .i64 mv.g, .int .i64 mv.f, .int .i64 mv.t] 37)))
          go_ret2
          rw [HE.out]
          exact ⟨_, _, _, _, _, _, rfl, (Own.reads mvC_len (M7.out.row 0 rfl)).1, (Own.reads inC_len (M7.out.row 1 rfl)).1, M7.out.held⟩
        · have hg := improve_g him
          rw [HX.out] at hg
          obtain ⟨gd, hgd⟩ := Int.eq_ofNat_of_zero_le hg.1
          obtain ⟨mg, mf, mt⟩ := mv
          simp only at hg hgd
          subst hgd
          have HE : Hid (R = ((ms ++ [⟨gd, mf, mt⟩]) ++ (rb H L (N - (ln + 1)) (x.set gd mt)).1, (rb H L (N - (ln + 1)) (x.set gd mt)).2)) := show _ = _ by
            rw [HRR.out, show N - ln = (N - (ln + 1)) + 1 by omega, rb_yes him]
            unfold mvd
            simp
          have hgn : gd < n3 := by omega
          have HMV := Lib.hid (fun B c w' (hx : Sl 1 inC w' B n3 x) => moved_any B n3 c x gd mt w' hx hgn (by omega))
          obtain ⟨x', hx'⟩ : ∃ x', x.set gd mt = x' := ⟨_, rfl⟩
          have HXL : Hid (x'.length = n3) := show _ = _ by rw [← hx', List.length_set]; exact HX.out
          rw [hx'] at HMV HE
          clear him hg hx'
          go_wp2_with (first | (go_at_call 40; refine HIX.out.mono ?_; rintro e w7 ⟨rfl, h7⟩; have M7 := Lib.hid ((M4.out.keep h7).alloc #[.int .i64 gd, .int .i64 mf, .int .i64 mt] 37); obtain ⟨⟨c0, c1, c2⟩, _, _⟩ := M7.out.box3 2 rfl) | (at_builtin; refine Mem.wp_app (M7.out.skip _) 0 rfl rfl _ _ _ rfl _ 24 Try.underlying33 info_mv rfl (by decide) mvC_len mvC_one ⟨gd, mf, mt⟩ ⟨w7.heap.size + 1, 0, none⟩ 1 rfl rfl (cells_new _ (by simp) _ _) ln HLN.out (by omega) (by decide) ?_; intro g9 cp9 w9 M9; have M10 := Lib.hid M9; clear c0 c1 c2; obtain ⟨⟨c0, c1, c2⟩, _, _⟩ := M9.box3 2 rfl; clear M9) | (go_at_call 56; refine (HMV.out _ _ _ (Own.reads inC_len (M10.out.row 1 rfl)).1).mono ?_; rintro e w11 ⟨A11, cap11, rfl, _, ho11, h11⟩; have M11 := Lib.hid ((M10.out.own h11 ho11).sel [0, 3] (by decide)); clear ho11))
          go_roundw
          case rel => exact ⟨ms ++ [(⟨(gd : Int), mf, mt⟩ : Mv)], x', by rw [List.length_append, HLN.out]; simp; omega, HXL.out, by rw [List.length_append, HLN.out]; exact HE.out, M11.out⟩
          case measure => simp only [slen]; omega
      · have HE : Hid (R = (ms, x)) := show _ = _ by rw [HRR.out, show N - ln = 0 by omega]; simp [rb]
        have hno : ¬ ((ln : Int) < most ∧ (ln : Int) < 10) := fun h => hlt (hqq.1 h)
        clear hqq
        by_cases h10 : (ln : Int) < most
        · have h11 : ¬ (ln : Int) < 10 := fun h => hno ⟨h10, h⟩
          clear hno
          go_wp2
          go_ret2
          rw [HE.out]
          exact ⟨_, _, _, _, _, _, rfl, (Own.reads mvC_len (M4.out.row 0 rfl)).1, (Own.reads inC_len (M4.out.row 1 rfl)).1, M4.out.held⟩
        · clear hno
          go_wp2
          go_ret2
          rw [HE.out]
          exact ⟨_, _, _, _, _, _, rfl, (Own.reads mvC_len (M4.out.row 0 rfl)).1, (Own.reads inC_len (M4.out.row 1 rfl)).1, M4.out.held⟩
end Ba
end Go.Proofs.Ytmmjofdienoobaa
