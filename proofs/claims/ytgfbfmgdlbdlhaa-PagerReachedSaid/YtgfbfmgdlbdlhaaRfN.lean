/-
  Contracts: NewPager and SamePager of the reference of chapter 36.
-/
import Derived.Test.YtgfbfmgdlbdlhaaRfV
import Derived.Test.YtgfbfmgdlbdlhaaPgK
set_option linter.unusedVariables false
set_option linter.unusedSimpArgs false
set_option maxRecDepth 100000
namespace Go.Proofs.Ytgfbfmgdlbdlhaa
open Go.RowKit Go.BigFrame Go.Sort
namespace Pg
theorem new_bad {L : List ByteArray} {lim : Int} (hs : ∀ s ∈ L, s.size = 128) (h32 : ¬ 32 < (L.length : Int)) : newP L lim = if valid (newL lim L) lim 0 = true then (newL lim L, lim, true) else ([], 0, false) := by
  by_cases h : (L.length : Int) < 1 ∨ lim < 1 ∨ (L.length : Int) < lim
  · have hb : newBad L lim = true := by unfold newBad; simp; omega
    rw [newP_bad hb, if_neg]
    intro hv
    have := valid_bd hv
    rw [newL_len] at this
    omega
  · obtain ⟨h1, h2, h3⟩ := new_law (L := L) (lim := lim) (by omega) (by omega) hs
    rw [h1, if_pos h2]
set_option maxHeartbeats 8000000 in
theorem new_ref (A : Option Addr) (n cap : Nat) (lim : Int) (L : List ByteArray) (w : World) (h : Sl 1 stC w A n L) (hn : (n : Int) ≤ 1000000) (hd : ∀ x ∈ L, (x.size : Int) ≤ 1000000) :
    Calls Try.prog 28 #[.slice A n cap, .int .i64 lim] w (RetN (newP L lim) w) := by
  have HS := Lib.hid h
  have hln := h.1
  have HD := Lib.hid hd
  obtain ⟨r, hr⟩ : ∃ r, newP L lim = r := ⟨_, rfl⟩
  have HR := Lib.hid hr
  rw [hr]
  clear h hd hr
  by_cases g2 : (32 : Int) < n
  · have hb : newBad L lim = true := by unfold newBad; rw [hln]; simp; omega
    have HP : Hid (r = ([], 0, false)) := HR.out.symm.trans (newP_bad hb)
    have M0 := Lib.hid ((Mem.start w).alloc #[.slice none 0 0, .int .i64 0, .int .i64 0] 32 |>.nilRow (e := 37) (s := 3) (f := pgC))
    clear hb hln
    go_enter Try.func28, Try.ntmps28
    go_wp2
    refine bodyPost_ret (Bx.res_ct Try.results28 rfl (GB.load (M0.out.blk 0 rfl))) rfl ?_
    exact RetN.mk HP.out rfl (M0.out.row 1 rfl) M0.out.held
  · have HB := Lib.hid (fun hs => new_bad (L := L) (lim := lim) hs (by rw [hln]; exact g2))
    have HLN := Lib.hid hln
    have M0 := Lib.hid (((Mem.start w).alloc #[.slice none 0 0, .int .i64 0, .int .i64 0] 32).alloc' (b := w.heap.size + 1) (by simp) #[.slice none 0 0, .int .i64 lim, .int .i64 0] 32 |>.nilRow (e := 37) (s := 3) (f := pgC))
    clear hln
    go_enter Try.func28, Try.ntmps28
    go_wp2
    go_loopw [7] (fun i wr => ∃ (k : Nat) (A : Option Addr) (cap : Nat), i = .int .i64 k ∧ k ≤ n ∧ (∀ s ∈ L.take k, s.size = 128) ∧ Mem w wr [.box w.heap.size #[.slice none 0 0, .int .i64 0, .int .i64 0] 32, .box (w.heap.size + 1) #[.slice A k cap, .int .i64 lim, .int .i64 0] 32, .row 37 3 pgC w.heap.size (.slice A k cap) (newL lim (L.take k))]) (fun i _ => n - (intOf i).toNat)
    case atStart => exact ⟨0, none, 0, rfl, Nat.zero_le _, by simp, M0.out⟩
    case round =>
      obtain ⟨k, A1, cap1, rfl, hk, hall, M⟩ := hrel
      have HA := Lib.hid hall
      have M1 := Lib.hid M
      obtain ⟨⟨r0, r1, r2⟩, ⟨rf0, rf1, rf2⟩, rlt⟩ := M.box3 0 rfl
      obtain ⟨⟨p0, p1, p2⟩, ⟨pf0, pf1, pf2⟩, plt⟩ := M.box3 1 rfl
      have n1 : ¬ w.heap.size = wr.heap.size := by omega
      have n2 : ¬ w.heap.size + 1 = wr.heap.size := by omega
      clear hall M M0
      by_cases hlt : (k : Int) < n
      · obtain ⟨b, off, s, rfl, _, hsk, hcell⟩ := HS.out.at_ M1.out.held (k := k) (by omega)
        have c0 := hcell 0 _ rfl
        rw [Nat.add_zero, Nat.mul_one] at c0
        have lb : b < wr.heap.size := lt_of_cell c0
        have nb : ¬ b = wr.heap.size := by omega
        have HSK := Lib.hid (List.getElem?_eq_some_iff.1 hsk)
        have hsz : (s.size : Int) ≤ 1000000 := HD.out s (List.mem_of_getElem? hsk)
        clear hcell hsk
        by_cases h128 : s.size = 128
        · have hb : ((s.size : Int) != 128) = false := by simp [h128]
          have HA2 : Hid (∀ x ∈ L.take (k + 1), x.size = 128) := by
            intro x hx
            obtain ⟨hkL, hsL⟩ := HSK.out
            rw [List.take_succ_eq_append_getElem hkL, List.mem_append, List.mem_singleton] at hx
            rcases hx with hx | rfl
            · exact HA.out x hx
            · rw [hsL]; exact h128
          have HN : Hid (newL lim (L.take (k + 1)) = newL lim (L.take k) ++ [newAt lim k s]) := by
            obtain ⟨hkL, hsL⟩ := HSK.out
            have := newL_next lim L k hkL
            rw [hsL] at this; exact this
          clear h128
          by_cases hge : lim ≤ (k : Int)
          · have HC := Lib.hid (fun w => out_ref s w (by omega))
            have HE : Hid (newAt lim k s = putOut s) := show _ = _ from if_pos hge
            obtain ⟨q, hq⟩ : ∃ q, putOut s = q := ⟨_, rfl⟩
            rw [hq] at HC HE
            clear hq
            go_wp2_with fail
            refine (HC.out _).mono ?_
            rintro e w1 ⟨rfl, h1⟩
            have M2 := Lib.hid ((M1.out.alloc #[.int .i64 1, .string s, .bool false] 37).keep h1)
            clear h1 HC r0 r1 r2 rf0 rf1 rf2 p0 p1 p2 pf0 pf1 pf2
            obtain ⟨⟨p0, p1, p2⟩, ⟨pf0, pf1, pf2⟩, plt2⟩ := M2.out.box3 1 rfl
            obtain ⟨⟨x0, x1, x2⟩, ⟨xf0, xf1, xf2⟩, xlt⟩ := M2.out.box3 3 rfl
            have M3 := Lib.hid ((((M2.out.put 3 rfl 0 (.int .i64 q.st)).put 3 rfl 1 (.string q.d)).put 3 rfl 2 (.bool q.u)))
            unfold pgV
            have hlk : (newL lim (L.take k)).length = k := by rw [newL_len, List.length_take, HLN.out]; omega
            have HLK := Lib.hid hlk
            clear hlk
            go_wp2_with (at_builtin; refine Mem.wp_app (M3.out.skip _) 2 rfl rfl _ _ _ rfl _ 32 Try.underlying30 SlcPg.info rfl (by decide) pgC_len pgC_one q ⟨w1.heap.size, 0, none⟩ 1 rfl rfl (cells_new _ (by simp) _ _) k HLK.out (by omega) (by decide) ?_; intro g4 cp4 w4 M4; obtain ⟨⟨p0, p1, p2⟩, ⟨pf0, pf1, pf2⟩, plt3⟩ := M4.box3 1 rfl; have M5 := Lib.hid (M4.put 1 rfl 0 (.slice (some ⟨g4, 0, none⟩) (k + 1) cp4)); clear M4)
            go_roundw
            case rel => exact ⟨k + 1, _, _, by go_num, by omega, HA2.out, by rw [HN.out, HE.out]; exact M5.out.take 3⟩
            case measure => (simp [intOf]) <;> omega
          · have HE : Hid (newAt lim k s = ⟨1, s, false⟩) := show _ = _ from if_neg hge
            have M3 := Lib.hid (M1.out.alloc #[.int .i64 1, .string s, .bool false] 37)
            have hlk : (newL lim (L.take k)).length = k := by rw [newL_len, List.length_take, HLN.out]; omega
            have HLK := Lib.hid hlk
            clear hlk
            go_wp2_with (at_builtin; refine Mem.wp_app (M3.out.skip _) 2 rfl rfl _ _ _ rfl _ 32 Try.underlying30 SlcPg.info rfl (by decide) pgC_len pgC_one ⟨1, s, false⟩ ⟨wr.heap.size + 1, 0, none⟩ 1 rfl rfl (cells_new _ (by simp) _ _) k HLK.out (by omega) (by decide) ?_; intro g4 cp4 w4 M4; obtain ⟨⟨p0, p1, p2⟩, ⟨pf0, pf1, pf2⟩, plt3⟩ := M4.box3 1 rfl; have M5 := Lib.hid (M4.put 1 rfl 0 (.slice (some ⟨g4, 0, none⟩) (k + 1) cp4)); clear M4)
            go_roundw
            case rel => exact ⟨k + 1, _, _, by go_num, by omega, HA2.out, by rw [HN.out, HE.out]; exact M5.out.take 3⟩
            case measure => (simp [intOf]) <;> omega
        · have hb : ((s.size : Int) != 128) = true := by simp; omega
          have HP : Hid (r = ([], 0, false)) := HR.out.symm.trans (by obtain ⟨hkL, hsL⟩ := HSK.out; exact newP_no hkL (by rw [hsL]; exact h128))
          clear h128
          have M2 := Lib.hid ((((M1.out.put 0 rfl 0 (.slice none 0 0)).put 0 rfl 1 (.int .i64 0)).put 0 rfl 2 (.int .i64 0)).nilRow (e := 37) (s := 3) (f := pgC))
          go_wp2
          refine bodyPost_ret (Bx.res_ct Try.results28 rfl (GB.load (M2.out.blk 0 rfl))) rfl ?_
          exact RetN.mk HP.out rfl (M2.out.row 3 rfl) M2.out.held
      · obtain rfl : k = n := by omega
        have HP := Lib.hid (HB.out (by have := HA.out; rw [← HLN.out, List.take_length] at this; exact this))
        rw [HR.out] at HP
        have HT : Hid (L.take k = L) := show _ = _ by rw [← HLN.out, List.take_length]
        rw [HT.out] at M1
        have hnl : (newL lim L).length = k := by rw [newL_len, HLN.out]
        have HV := Lib.hid (valid_ref A1 k cap1 lim 0 (newL lim L) wr (Own.reads pgC_len (M1.out.row 2 rfl)).1 (by omega))
        obtain ⟨q, hq⟩ : ∃ q, valid (newL lim L) lim 0 = q := ⟨_, rfl⟩
        rw [hq] at HV HP
        unfold grV at HV
        have HNL := Lib.hid hnl
        clear hq hnl
        go_wp2_with fail
        refine HV.out.mono ?_
        rintro e w1 ⟨rfl, h1⟩
        have M2 := Lib.hid (M1.out.keep h1)
        clear h1 HV r0 r1 r2 rf0 rf1 rf2 p0 p1 p2 pf0 pf1 pf2
        obtain ⟨⟨r0, r1, r2⟩, ⟨rf0, rf1, rf2⟩, rlt2⟩ := M2.out.box3 0 rfl
        obtain ⟨⟨p0, p1, p2⟩, ⟨pf0, pf1, pf2⟩, plt2⟩ := M2.out.box3 1 rfl
        cases q
        · have M3 := Lib.hid ((((M2.out.put 0 rfl 0 (.slice none 0 0)).put 0 rfl 1 (.int .i64 0)).put 0 rfl 2 (.int .i64 0)).nilRow (e := 37) (s := 3) (f := pgC))
          go_wp2
          refine bodyPost_ret (Bx.res_ct Try.results28 rfl (GB.load (M3.out.blk 0 rfl))) rfl ?_
          exact RetN.mk HP.out rfl (M3.out.row 3 rfl) M3.out.held
        · have M3 := Lib.hid ((((M2.out.put 0 rfl 0 (.slice A1 k cap1)).put 0 rfl 1 (.int .i64 lim)).put 0 rfl 2 (.int .i64 0)))
          go_wp2
          refine bodyPost_ret (Bx.res_ct Try.results28 rfl (GB.load (M3.out.blk 0 rfl))) rfl ?_
          exact RetN.mk HP.out HNL.out.symm (M3.out.row 2 rfl) M3.out.held
set_option maxHeartbeats 8000000 in
/-- A pager is the same as a pager with the same pages. -/
theorem same_any (A1 : Option Addr) (n1 c1 : Nat) (A2 : Option Addr) (n2 c2 : Nat) (lim hand : Int) (L : List Pg) (w : World) (h1 : Sl 3 pgC w A1 n1 L) (h2 : Sl 3 pgC w A2 n2 L) (hn : (n1 : Int) ≤ 1000000) :
    Calls Try.prog 34 #[.agg #[.slice A1 n1 c1, .int .i64 lim, .int .i64 hand], .agg #[.slice A2 n2 c2, .int .i64 lim, .int .i64 hand]] w fun e w' => e = .returned (.bool true) ∧ Held w w' := by
  obtain rfl : n1 = n2 := h1.1.symm.trans h2.1
  have H1 := Lib.hid h1
  have H2 := Lib.hid h2
  have hq : ((n1 : Int) != n1) = false := by simp
  have hq1 : (lim != lim) = false := by simp
  have hq2 : (hand != hand) = false := by simp
  have M0 := Lib.hid (((Mem.start w).alloc #[.slice A1 n1 c1, .int .i64 lim, .int .i64 hand] 32).alloc' (b := w.heap.size + 1) (by simp) #[.slice A2 n1 c2, .int .i64 lim, .int .i64 hand] 32)
  clear h1 h2
  go_enter Try.func34, Try.ntmps34
  go_wp2
  go_loopw [5] (fun i wr => ∃ k : Nat, i = .int .i64 k ∧ k ≤ n1 ∧ Mem w wr [.box w.heap.size #[.slice A1 n1 c1, .int .i64 lim, .int .i64 hand] 32, .box (w.heap.size + 1) #[.slice A2 n1 c2, .int .i64 lim, .int .i64 hand] 32]) (fun i _ => n1 - (intOf i).toNat)
  case atStart => exact ⟨0, rfl, Nat.zero_le _, M0.out⟩
  case round =>
    obtain ⟨k, rfl, hk, M⟩ := hrel
    have M1 := Lib.hid M
    obtain ⟨⟨p0, p1, p2⟩, _, plt⟩ := M.box3 0 rfl
    obtain ⟨⟨q0, q1, q2⟩, _, qlt⟩ := M.box3 1 rfl
    clear M M0
    by_cases hlt : (k : Int) < n1
    · obtain ⟨b1, o1, x, rfl, _, hx, hc⟩ := H1.out.at_ M1.out.held (k := k) (by omega)
      have x0 := hc 0 _ rfl
      have x1 := hc 1 _ rfl
      have x2 := hc 2 _ rfl
      rw [Nat.add_zero] at x0
      obtain ⟨b2, o2, y, rfl, _, hy, hd⟩ := H2.out.at_ M1.out.held (k := k) (by omega)
      have y0 := hd 0 _ rfl
      have y1 := hd 1 _ rfl
      have y2 := hd 2 _ rfl
      rw [Nat.add_zero] at y0
      obtain rfl : x = y := by rw [hx] at hy; injection hy
      have hne := run_neq_paged (x := x) (y := x) (q := true) (by simp)
      have s1 : (0 : Int) ≤ k := by omega
      clear hc hd hx hy
      go_wp2
      go_big_quiet (fail)
      go_wp2
      go_roundw
      case rel => exact ⟨k + 1, by go_num, by omega, M1.out.keep ((Held.refl wr).drewN _)⟩
      case measure => (simp [intOf]) <;> omega
    · go_wp2
      go_ret
      exact ⟨rfl, M1.out.held⟩
end Pg
end Go.Proofs.Ytgfbfmgdlbdlhaa
