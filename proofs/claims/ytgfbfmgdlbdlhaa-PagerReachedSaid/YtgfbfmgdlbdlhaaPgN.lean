/-
  Contracts: New of the pager.
-/
import Derived.Test.YtgfbfmgdlbdlhaaPgS
set_option linter.unusedVariables false
set_option linter.unusedSimpArgs false
set_option maxRecDepth 100000
namespace Go.Proofs.Ytgfbfmgdlbdlhaa
open Go.RowKit Go.BigFrame Go.Sort
namespace Pg
def stC (s : ByteArray) : List Value := [.string s]
theorem stC_len (x : ByteArray) : (stC x).length = 1 := rfl
theorem stC_one (x : ByteArray) : ∀ u ∈ stC x, u.oneCell' = true := by
  intro u hu
  simp only [stC, List.mem_singleton] at hu
  subst hu; rfl
/-- A page of a new pager. -/
def newAt (lim : Int) (i : Nat) (s : ByteArray) : Pg := if lim ≤ i then putOut s else ⟨1, s, false⟩
def newL (lim : Int) (L : List ByteArray) : List Pg := L.mapIdx (newAt lim)
def newBad (L : List ByteArray) (lim : Int) : Bool := decide ((L.length : Int) < 1 ∨ 32 < (L.length : Int) ∨ lim < 1 ∨ (L.length : Int) < lim)
def newOk (L : List ByteArray) (lim : Int) : Bool := !newBad L lim && L.all fun s => decide (s.size = 128)
/-- A new pager: the pages, the limit, whether there is one. -/
def newP (L : List ByteArray) (lim : Int) : List Pg × Int × Bool := if newOk L lim then (newL lim L, lim, true) else ([], 0, false)
theorem newL_len (lim : Int) (L : List ByteArray) : (newL lim L).length = L.length := List.length_mapIdx
theorem newL_next (lim : Int) (L : List ByteArray) (k : Nat) (h : k < L.length) : newL lim (L.take (k + 1)) = newL lim (L.take k) ++ [newAt lim k L[k]] := by
  unfold newL
  rw [List.take_succ_eq_append_getElem h, List.mapIdx_append]
  simp [Nat.min_eq_left (Nat.le_of_lt h)]
theorem newP_bad {L : List ByteArray} {lim : Int} (h : newBad L lim = true) : newP L lim = ([], 0, false) := by
  unfold newP newOk; rw [h]; rfl
theorem newP_no {L : List ByteArray} {lim : Int} {k : Nat} (hk : k < L.length) (h : ¬ L[k].size = 128) : newP L lim = ([], 0, false) := by
  have : (L.all fun s => decide (s.size = 128)) = false := by
    rw [List.all_eq_false]; exact ⟨L[k], List.getElem_mem hk, by simpa using h⟩
  unfold newP newOk; rw [this, Bool.and_false]; rfl
theorem newP_yes {L : List ByteArray} {lim : Int} (h : newBad L lim = false) (ha : ∀ s ∈ L, s.size = 128) : newP L lim = (newL lim L, lim, true) := by
  have : (L.all fun s => decide (s.size = 128)) = true := by
    rw [List.all_eq_true]; intro s hs; simpa using ha s hs
  unfold newP newOk; rw [this, h]; rfl
def RetN (r : List Pg × Int × Bool) (w : World) (e : Ending) (w' : World) : Prop := ∃ A cap, e = .returned (.tuple #[grV A r.1.length cap r.2.1 0, .bool r.2.2]) ∧ r.1.length ≤ cap ∧ Own 37 3 pgC w.heap.size w' (.slice A r.1.length cap) r.1 ∧ Held w w'
theorem RetN.mk {lim : Int} {b : Bool} {r : List Pg × Int × Bool} {L : List Pg} {w w' : World} {A : Option Addr} {n cap : Nat} (hr : r = (L, lim, b)) (hn : n = L.length) (ho : Own 37 3 pgC w.heap.size w' (.slice A n cap) L) (hh : Held w w') : RetN r w (.returned (.tuple #[grV A n cap lim 0, .bool b])) w' := by
  subst hr hn; exact ⟨A, cap, rfl, Own.cap ho, ho, hh⟩
set_option maxHeartbeats 8000000 in
theorem new_any (A : Option Addr) (n cap : Nat) (lim : Int) (L : List ByteArray) (w : World) (h : Sl 1 stC w A n L) (hn : (n : Int) ≤ 1000000) (hd : ∀ x ∈ L, (x.size : Int) ≤ 1000000) :
    Calls Try.prog 14 #[.slice A n cap, .int .i64 lim] w (RetN (newP L lim) w) := by
  have HS := Lib.hid h
  have hln := h.1
  have HD := Lib.hid hd
  obtain ⟨r, hr⟩ : ∃ r, newP L lim = r := ⟨_, rfl⟩
  have HR := Lib.hid hr
  rw [hr]
  clear h hd hr
  by_cases hout : (n : Int) < 1 ∨ 32 < (n : Int) ∨ lim < 1 ∨ (n : Int) < lim
  · have hb : newBad L lim = true := by unfold newBad; rw [hln]; simpa using hout
    have HP : Hid (r = ([], 0, false)) := HR.out.symm.trans (newP_bad hb)
    have M0 := Lib.hid ((Mem.start w).alloc #[.slice none 0 0, .int .i64 0, .int .i64 0] 32 |>.nilRow (e := 37) (s := 3) (f := pgC))
    clear hb hln
    by_cases g1 : (n : Int) < 1
    · go_enter Try.func14, Try.ntmps14
      go_wp2
      refine bodyPost_ret (Bx.res_ct Try.results14 rfl (GB.load (M0.out.blk 0 rfl))) rfl ?_
      exact RetN.mk HP.out rfl (M0.out.row 1 rfl) M0.out.held
    by_cases g2 : (32 : Int) < n
    · go_enter Try.func14, Try.ntmps14
      go_wp2
      refine bodyPost_ret (Bx.res_ct Try.results14 rfl (GB.load (M0.out.blk 0 rfl))) rfl ?_
      exact RetN.mk HP.out rfl (M0.out.row 1 rfl) M0.out.held
    by_cases g3 : lim < 1
    · go_enter Try.func14, Try.ntmps14
      go_wp2
      refine bodyPost_ret (Bx.res_ct Try.results14 rfl (GB.load (M0.out.blk 0 rfl))) rfl ?_
      exact RetN.mk HP.out rfl (M0.out.row 1 rfl) M0.out.held
    have g4 : (n : Int) < lim := by omega
    go_enter Try.func14, Try.ntmps14
    go_wp2
    refine bodyPost_ret (Bx.res_ct Try.results14 rfl (GB.load (M0.out.blk 0 rfl))) rfl ?_
    exact RetN.mk HP.out rfl (M0.out.row 1 rfl) M0.out.held
  · have hb : newBad L lim = false := by unfold newBad; rw [hln]; simpa using hout
    have g1 : ¬ (n : Int) < 1 := by omega
    have g2 : ¬ (32 : Int) < n := by omega
    have g3 : ¬ lim < 1 := by omega
    have g4 : ¬ (n : Int) < lim := by omega
    have HB := Lib.hid hb
    have HLN := Lib.hid hln
    have M0 := Lib.hid (((Mem.start w).alloc #[.slice none 0 0, .int .i64 0, .int .i64 0] 32).alloc' (b := w.heap.size + 1) (by simp) #[.slice none 0 0, .int .i64 lim, .int .i64 0] 32 |>.nilRow (e := 37) (s := 3) (f := pgC))
    clear hb hln hout
    go_enter Try.func14, Try.ntmps14
    go_wp2
    go_loopw [33] (fun i wr => ∃ (k : Nat) (A : Option Addr) (cap : Nat), i = .int .i64 k ∧ k ≤ n ∧ (∀ s ∈ L.take k, s.size = 128) ∧ Mem w wr [.box w.heap.size #[.slice none 0 0, .int .i64 0, .int .i64 0] 32, .box (w.heap.size + 1) #[.slice A k cap, .int .i64 lim, .int .i64 0] 32, .row 37 3 pgC w.heap.size (.slice A k cap) (newL lim (L.take k))]) (fun i _ => n - (intOf i).toNat)
    case atStart => exact ⟨0, none, 0, rfl, Nat.zero_le _, by simp, M0.out⟩
    case round =>
      obtain ⟨k, A1, cap1, rfl, hk, hall, M⟩ := hrel
      have HA := Lib.hid hall
      have M1 := Lib.hid M
      obtain ⟨⟨r0, r1, r2⟩, ⟨rf0, rf1, rf2⟩, rlt⟩ := M.box3 0 rfl
      obtain ⟨⟨p0, p1, p2⟩, ⟨pf0, pf1, pf2⟩, plt⟩ := M.box3 1 rfl
      have n1 : ¬ w.heap.size = wr.heap.size := by omega
      have n2 : ¬ w.heap.size + 1 = wr.heap.size := by omega
      clear hall M M0
      by_cases hlt : (k : Int) < n
      · obtain ⟨b, off, s, rfl, _, hsk, hcell⟩ := HS.out.at_ M1.out.held (k := k) (by omega)
        have c0 := hcell 0 _ rfl
        rw [Nat.add_zero, Nat.mul_one] at c0
        have HSK := Lib.hid (List.getElem?_eq_some_iff.1 hsk)
        have hsz : (s.size : Int) ≤ 1000000 := HD.out s (List.mem_of_getElem? hsk)
        clear hcell hsk
        by_cases h128 : s.size = 128
        · have hb : ((s.size : Int) != 128) = false := by simp [h128]
          have HA2 : Hid (∀ x ∈ L.take (k + 1), x.size = 128) := by
            intro x hx
            obtain ⟨hkL, hsL⟩ := HSK.out
            rw [List.take_succ_eq_append_getElem hkL, List.mem_append, List.mem_singleton] at hx
            rcases hx with hx | rfl
            · exact HA.out x hx
            · rw [hsL]; exact h128
          have HN : Hid (newL lim (L.take (k + 1)) = newL lim (L.take k) ++ [newAt lim k s]) := by
            obtain ⟨hkL, hsL⟩ := HSK.out
            have := newL_next lim L k hkL
            rw [hsL] at this; exact this
          clear h128
          by_cases hge : lim ≤ (k : Int)
          · have HC := Lib.hid (fun w => putOut_any s w (by omega))
            have HE : Hid (newAt lim k s = putOut s) := show _ = _ from if_pos hge
            obtain ⟨q, hq⟩ : ∃ q, putOut s = q := ⟨_, rfl⟩
            rw [hq] at HC HE
            clear hq
            go_wp2_with fail
            refine (HC.out _).mono ?_
            rintro e w1 ⟨rfl, h1⟩
            have M2 := Lib.hid ((M1.out.alloc #[.int .i64 1, .string s, .bool false] 37).keep h1)
            clear h1 HC r0 r1 r2 rf0 rf1 rf2 p0 p1 p2 pf0 pf1 pf2
            obtain ⟨⟨p0, p1, p2⟩, ⟨pf0, pf1, pf2⟩, plt2⟩ := M2.out.box3 1 rfl
            obtain ⟨⟨x0, x1, x2⟩, ⟨xf0, xf1, xf2⟩, xlt⟩ := M2.out.box3 3 rfl
            have M3 := Lib.hid ((((M2.out.put 3 rfl 0 (.int .i64 q.st)).put 3 rfl 1 (.string q.d)).put 3 rfl 2 (.bool q.u)))
            unfold pgV
            have hlk : (newL lim (L.take k)).length = k := by rw [newL_len, List.length_take, HLN.out]; omega
            have HLK := Lib.hid hlk
            clear hlk
            go_wp2_with (at_builtin; refine Mem.wp_app (M3.out.skip _) 2 rfl rfl _ _ _ rfl _ 32 Try.underlying30 SlcPg.info rfl (by decide) pgC_len pgC_one q ⟨w1.heap.size, 0, none⟩ 1 rfl rfl (cells_new _ (by simp) _ _) k HLK.out (by omega) (by decide) ?_; intro g4 cp4 w4 M4; obtain ⟨⟨p0, p1, p2⟩, ⟨pf0, pf1, pf2⟩, plt3⟩ := M4.box3 1 rfl; have M5 := Lib.hid (M4.put 1 rfl 0 (.slice (some ⟨g4, 0, none⟩) (k + 1) cp4)); clear M4)
            go_roundw
            case rel => exact ⟨k + 1, _, _, by go_num, by omega, HA2.out, by rw [HN.out, HE.out]; exact M5.out.take 3⟩
            case measure => (simp [intOf]) <;> omega
          · have HE : Hid (newAt lim k s = ⟨1, s, false⟩) := show _ = _ from if_neg hge
            have M3 := Lib.hid (M1.out.alloc #[.int .i64 1, .string s, .bool false] 37)
            have hlk : (newL lim (L.take k)).length = k := by rw [newL_len, List.length_take, HLN.out]; omega
            have HLK := Lib.hid hlk
            clear hlk
            go_wp2_with (at_builtin; refine Mem.wp_app (M3.out.skip _) 2 rfl rfl _ _ _ rfl _ 32 Try.underlying30 SlcPg.info rfl (by decide) pgC_len pgC_one ⟨1, s, false⟩ ⟨wr.heap.size + 1, 0, none⟩ 1 rfl rfl (cells_new _ (by simp) _ _) k HLK.out (by omega) (by decide) ?_; intro g4 cp4 w4 M4; obtain ⟨⟨p0, p1, p2⟩, ⟨pf0, pf1, pf2⟩, plt3⟩ := M4.box3 1 rfl; have M5 := Lib.hid (M4.put 1 rfl 0 (.slice (some ⟨g4, 0, none⟩) (k + 1) cp4)); clear M4)
            go_roundw
            case rel => exact ⟨k + 1, _, _, by go_num, by omega, HA2.out, by rw [HN.out, HE.out]; exact M5.out.take 3⟩
            case measure => (simp [intOf]) <;> omega
        · have hb : ((s.size : Int) != 128) = true := by simp; omega
          have HP : Hid (r = ([], 0, false)) := HR.out.symm.trans (by obtain ⟨hkL, hsL⟩ := HSK.out; exact newP_no hkL (by rw [hsL]; exact h128))
          clear h128
          have M2 := Lib.hid ((((M1.out.put 0 rfl 0 (.slice none 0 0)).put 0 rfl 1 (.int .i64 0)).put 0 rfl 2 (.int .i64 0)).nilRow (e := 37) (s := 3) (f := pgC))
          go_wp2
          refine bodyPost_ret (Bx.res_ct Try.results14 rfl (GB.load (M2.out.blk 0 rfl))) rfl ?_
          exact RetN.mk HP.out rfl (M2.out.row 3 rfl) M2.out.held
      · obtain rfl : k = n := by omega
        have HP : Hid (r = (newL lim L, lim, true)) := HR.out.symm.trans (newP_yes HB.out (by have := HA.out; rw [← HLN.out, List.take_length] at this; exact this))
        have HT : Hid (L.take k = L) := show _ = _ by rw [← HLN.out, List.take_length]
        have M2 := Lib.hid ((((M1.out.put 0 rfl 0 (.slice A1 k cap1)).put 0 rfl 1 (.int .i64 lim)).put 0 rfl 2 (.int .i64 0)))
        go_wp2
        refine bodyPost_ret (Bx.res_ct Try.results14 rfl (GB.load (M2.out.blk 0 rfl))) rfl ?_
        exact RetN.mk HP.out (by rw [newL_len, HLN.out]) (by have := M2.out.row 2 rfl; rw [HT.out] at this; exact this) M2.out.held
end Pg
end Go.Proofs.Ytgfbfmgdlbdlhaa
