/-
  Contracts: ReadPager and WritePager of the reference of chapter 36.
-/
import Derived.Test.YtgfbfmgdlbdlhaaRfT
set_option linter.unusedVariables false
set_option linter.unusedSimpArgs false
set_option maxRecDepth 100000
namespace Go.Proofs.Ytgfbfmgdlbdlhaa
open Go.RowKit Go.BigFrame Go.Sort
namespace Pg
/-- A pager handed back that reads as these pages, and v besides. -/
def Rdg (lim hand : Int) (n : Nat) (L : List Pg) (v : List Value) (w : World) (e : Ending) (w' : World) : Prop := ∃ A cap, e = .returned (.tuple (.agg #[.slice A n cap, .int .i64 lim, .int .i64 hand] :: v).toArray) ∧ Sl 3 pgC w' A n L ∧ Held w w'
theorem To.rdg {lim hand : Int} {n : Nat} {L : List Pg} {v : List Value} {w w' : World} {e : Ending} (h : To lim hand n L v w e w') : Rdg lim hand n L v w e w' := by
  obtain ⟨A, cap, he, _, ho, hh⟩ := h
  exact ⟨A, cap, he, (Own.reads pgC_len ho).1, hh⟩
theorem touch_ref (A : Option Addr) (n cap : Nat) (lim hand pg : Int) (L : List Pg) (w : World) (h : Sl 3 pgC w A n L) (hn : (n : Int) ≤ 1000000) :
    Calls Try.prog 29 #[.agg #[.slice A n cap, .int .i64 lim, .int .i64 hand], .int .i64 pg] w (Rdg lim (touch L lim hand pg).2.1 n (touch L lim hand pg).1 [.int .i64 (touch L lim hand pg).2.2] w) := by
  cases hb : (valid L lim hand && (decide (0 ≤ pg) && decide (pg < L.length)))
  · rw [touch_no hb]
    refine (touch_ref_no A n cap lim hand pg L w h hn hb).mono ?_
    rintro e w' ⟨rfl, hh⟩
    exact ⟨A, cap, rfl, h.held hh, hh⟩
  · simp only [Bool.and_eq_true, decide_eq_true_eq] at hb
    obtain ⟨hv, h0, h1⟩ := hb
    obtain ⟨p, rfl⟩ := Int.eq_ofNat_of_zero_le h0
    have hl := h.1
    exact (touch_ref_yes A n cap lim hand p L w h hn hv (by omega) rfl).mono fun e w' q => q.rdg
set_option maxHeartbeats 8000000 in
theorem read_ref (A : Option Addr) (n cap : Nat) (lim hand pg : Int) (L : List Pg) (w : World) (h : Sl 3 pgC w A n L) (hn : (n : Int) ≤ 1000000) :
    Calls Try.prog 30 #[.agg #[.slice A n cap, .int .i64 lim, .int .i64 hand], .int .i64 pg] w (Rdg lim (touch L lim hand pg).2.1 n (touch L lim hand pg).1 [.string (readS L lim hand pg), .bool (decide (¬ (touch L lim hand pg).2.2 = 0))] w) := by
  have M0 := Lib.hid (((Mem.start w).alloc #[.slice A n cap, .int .i64 lim, .int .i64 hand] 32).alloc' (b := w.heap.size + 1) (by simp) #[.slice none 0 0, .int .i64 0, .int .i64 0] 32)
  have HT := Lib.hid (fun w' (q : Held w w') => touch_ref A n cap lim hand pg L w' (h.held q) hn)
  have HTN := Lib.hid (fun w' (q : Held w w') hb => touch_ref_no A n cap lim hand pg L w' (h.held q) hn hb)
  have hl := touch_len L lim hand pg
  rw [h.1] at hl
  have hok := Lib.hid (@touch_ok L lim hand pg)
  have hln := h.1
  have hrs : readS L lim hand pg = if (touch L lim hand pg).2.2 = 0 then ⟨#[]⟩ else ((touch L lim hand pg).1.getD pg.toNat dfl).d := rfl
  rw [hrs]
  cases hb : (valid L lim hand && (decide (0 ≤ pg) && decide (pg < L.length)))
  · have HT0 := Lib.hid (fun w' (q : Held w w') => HTN.out w' q hb)
    have hno := touch_no hb
    rw [hno]
    have HR := Lib.hid (fun w' (q : Held w w') => h.held q)
    simp only [if_true, not_true_eq_false, decide_false]
    clear hb hno hrs hl hln h HT HTN
    go_enter Try.func30, Try.ntmps30
    go_wp2_with fail
    refine (HT0.out _ M0.out.held).mono ?_
    rintro e w1 ⟨rfl, h1⟩
    have M1 := Lib.hid (M0.out.keep h1)
    clear h1 M0 HT0
    obtain ⟨⟨p0, p1, p2⟩, _, plt⟩ := M1.out.box3 0 rfl
    obtain ⟨⟨q0, q1, q2⟩, ⟨f0, f1, f2⟩, qlt⟩ := M1.out.box3 1 rfl
    have n1 : ¬ w.heap.size + 1 = w1.heap.size := by omega
    have n2 : ¬ w.heap.size = w1.heap.size := by omega
    go_wp2
    have M2 := Lib.hid ((((M1.out.put 1 rfl 0 (.slice A n cap)).put 1 rfl 1 (.int .i64 lim)).put 1 rfl 2 (.int .i64 hand)).skip (.cells #[.slice A n cap, .int .i64 lim, .int .i64 hand] 32))
    refine bodyPost_ret (Bx.res_ctt Try.results30 rfl (GB.load (M2.out.blk 1 rfl))) rfl ?_
    exact ⟨A, cap, rfl, HR.out _ M2.out.held, M2.out.held⟩
  · simp only [Bool.and_eq_true, decide_eq_true_eq] at hb
    obtain ⟨hv, h0, h1⟩ := hb
    obtain ⟨p, rfl⟩ := Int.eq_ofNat_of_zero_le h0
    have hpn : p < n := by omega
    have hst : ¬ (touch L lim hand p).2.2 = 0 := by
      obtain ⟨_, _, _, t5, t6⟩ := touch_law hv (show p < L.length by omega)
      rw [t5]; exact t6
    obtain ⟨T, hT⟩ : ∃ T, touch L lim hand p = T := ⟨_, rfl⟩
    obtain ⟨L', hand', st⟩ := T
    have HTY := Lib.hid (fun w' (q : Held w w') => touch_ref_yes A n cap lim hand p L w' (h.held q) hn hv hpn hT)
    rw [hT] at hst hl ⊢
    simp only at hst hl ⊢
    rw [if_neg hst, show decide (¬ st = 0) = true by simpa using hst]
    have hsb : (st == 0) = false := by simp [hst]
    have HL := Lib.hid hl
    clear hst hl hT hrs hln h HT HTN h0 h1 hv
    go_enter Try.func30, Try.ntmps30
    go_wp2_with fail
    refine (HTY.out _ M0.out.held).mono ?_
    rintro e w1 ⟨A1, cap1, rfl, hc1, ho1, hh1⟩
    have M1 := Lib.hid ((M0.out.own hh1 ho1).alloc #[.slice A1 n cap1, .int .i64 lim, .int .i64 hand'] 32)
    clear hh1 ho1 M0 HTY
    obtain ⟨⟨q0, q1, q2⟩, ⟨f0, f1, f2⟩, qlt⟩ := M1.out.box3 1 rfl
    obtain ⟨⟨b0, b1, b2⟩, _, blt⟩ := M1.out.box3 3 rfl
    obtain ⟨g, y, rfl, _, hg2, hy, hsl⟩ := M1.out.slot 2 rfl pgC_len (by decide) (k := p) (by rw [HL.out]; exact hpn)
    have y1 := (hsl 1 (by decide)).2 _ rfl
    have hyd : L'.getD ((p : Int)).toNat dfl = y := by rw [show ((p : Int)).toNat = p by omega, List.getD_eq_getElem?_getD, hy]; rfl
    have HYD := Lib.hid hyd
    have s1 : (0 : Int) ≤ p := by omega
    have s2 : (p : Int) < n := by omega
    have M2 := Lib.hid (((M1.out.put 1 rfl 0 (.slice (some ⟨g, 0, none⟩) n cap1)).put 1 rfl 1 (.int .i64 lim)).put 1 rfl 2 (.int .i64 hand'))
    obtain ⟨w2, hw2⟩ : ∃ w2, w1.alloc (.cells #[.slice (some ⟨g, 0, none⟩) n cap1, .int .i64 lim, .int .i64 hand'] 32) = w2 := ⟨_, rfl⟩
    have HW2 := Lib.hid hw2
    rw [hw2] at M2 q0 q1 q2 f0 f1 f2 qlt b0 b1 b2 blt hg2 y1
    have n1 : ¬ w1.heap.size = w.heap.size + 1 := by
      have := M1.out.ne 3 1 rfl rfl (by decide)
      exact this
    have n2 : ¬ g = w.heap.size + 1 := fun e => M1.out.neRow 1 2 rfl rfl (by decide) (by rw [e]; rfl)
    clear hsl hy hyd M1 hw2
    go_wp2
    rw [HW2.out]
    go_region
    all_goals
      go_wp2
      have M3 := Lib.hid M2.out.drew
      refine bodyPost_ret (Bx.res_ctt Try.results30 rfl (GB.load (M3.out.blk 1 rfl))) rfl ?_
      exact ⟨_, cap1, by rw [HYD.out]; rfl, (Own.reads pgC_len (M3.out.row 2 rfl)).1, M3.out.held⟩
set_option maxHeartbeats 8000000 in
theorem write_ref (A : Option Addr) (n cap : Nat) (lim hand pg : Int) (L : List Pg) (d : ByteArray) (w : World) (h : Sl 3 pgC w A n L) (hn : (n : Int) ≤ 1000000) :
    Calls Try.prog 31 #[.agg #[.slice A n cap, .int .i64 lim, .int .i64 hand], .int .i64 pg, .string d] w (Rdg lim (write L lim hand pg d).2.1 n (write L lim hand pg d).1 [.bool (write L lim hand pg d).2.2] w) := by
  have M0 := Lib.hid (((Mem.start w).alloc #[.slice A n cap, .int .i64 lim, .int .i64 hand] 32).alloc' (b := w.heap.size + 1) (by simp) #[.slice none 0 0, .int .i64 0, .int .i64 0] 32)
  have HR := Lib.hid (fun w' (q : Held w w') => h.held q)
  by_cases h128 : d.size = 128
  · have hdb : ((d.size : Int) != 128) = false := by simp [h128]
    cases hb : (valid L lim hand && (decide (0 ≤ pg) && decide (pg < L.length)))
    · have HT0 := Lib.hid (fun w' (q : Held w w') => touch_ref_no A n cap lim hand pg L w' (h.held q) hn hb)
      have hno := touch_no hb
      rw [write_no h128 (by rw [hno]), hno]
      clear hb hno h h128
      go_enter Try.func31, Try.ntmps31
      go_wp2_with fail
      refine (HT0.out _ M0.out.held).mono ?_
      rintro e w1 ⟨rfl, h1⟩
      have M1 := Lib.hid (M0.out.keep h1)
      clear h1 M0 HT0
      obtain ⟨⟨p0, p1, p2⟩, _, plt⟩ := M1.out.box3 0 rfl
      obtain ⟨⟨q0, q1, q2⟩, ⟨f0, f1, f2⟩, qlt⟩ := M1.out.box3 1 rfl
      have n1 : ¬ w.heap.size + 1 = w1.heap.size := by omega
      have n2 : ¬ w.heap.size = w1.heap.size := by omega
      go_wp2
      have M2 := Lib.hid ((((M1.out.put 1 rfl 0 (.slice A n cap)).put 1 rfl 1 (.int .i64 lim)).put 1 rfl 2 (.int .i64 hand)).skip (.cells #[.slice A n cap, .int .i64 lim, .int .i64 hand] 32))
      refine bodyPost_ret (Bx.res_ct Try.results31 rfl (GB.load (M2.out.blk 1 rfl))) rfl ?_
      exact ⟨A, cap, rfl, HR.out _ M2.out.held, M2.out.held⟩
    · simp only [Bool.and_eq_true, decide_eq_true_eq] at hb
      obtain ⟨hv, h0, h1⟩ := hb
      obtain ⟨p, rfl⟩ := Int.eq_ofNat_of_zero_le h0
      have hln := h.1
      have hpn : p < n := by omega
      have hl := touch_len L lim hand p
      rw [h.1] at hl
      have hst : ¬ (touch L lim hand p).2.2 = 0 := by
        obtain ⟨_, _, _, t5, t6⟩ := touch_law hv (show p < L.length by omega)
        rw [t5]; exact t6
      rw [write_yes h128 hst]
      obtain ⟨T, hT⟩ : ∃ T, touch L lim hand p = T := ⟨_, rfl⟩
      obtain ⟨L', hand', st⟩ := T
      have HTY := Lib.hid (fun w' (q : Held w w') => touch_ref_yes A n cap lim hand p L w' (h.held q) hn hv hpn hT)
      rw [hT] at hst hl ⊢
      simp only at hst hl ⊢
      have hsb : (st == 0) = false := by simp [hst]
      have HL := Lib.hid hl
      clear hst hl hT hln h h0 h1 hv h128
      go_enter Try.func31, Try.ntmps31
      go_wp2_with fail
      refine (HTY.out _ M0.out.held).mono ?_
      rintro e w1 ⟨A1, cap1, rfl, hc1, ho1, hh1⟩
      have M1 := Lib.hid (M0.out.own hh1 ho1)
      clear hh1 ho1 M0 HTY
      obtain ⟨⟨q0, q1, q2⟩, ⟨f0, f1, f2⟩, qlt⟩ := M1.out.box3 1 rfl
      obtain ⟨g, y, rfl, _, hg2, hy, hsl⟩ := M1.out.slot 2 rfl pgC_len (by decide) (k := p) (by rw [HL.out]; exact hpn)
      have y1 := (hsl 1 (by decide)).2 _ rfl
      have z1 := (hsl 1 (by decide)).1
      have hyd : L'.getD ((p : Int)).toNat dfl = y := by rw [show ((p : Int)).toNat = p by omega, List.getD_eq_getElem?_getD, hy]; rfl
      have HYD := Lib.hid hyd
      have s1 : (0 : Int) ≤ p := by omega
      have s2 : (p : Int) < n := by omega
      have n1 : ¬ w.heap.size + 1 = w1.heap.size := by omega
      have n2 : ¬ g = w.heap.size + 1 := fun e => M1.out.neRow 1 2 rfl rfl (by decide) (by rw [e]; rfl)
      have n3 : ¬ g = w1.heap.size := by omega
      have M2 := Lib.hid (((((M1.out.putAt 2 rfl pgC_len hy (j := 1) (by decide) (.string d) ⟨y.st, d, y.u⟩ rfl).put 1 rfl 0 (.slice (some ⟨g, 0, none⟩) n cap1)).put 1 rfl 1 (.int .i64 lim)).put 1 rfl 2 (.int .i64 hand')).skip (.cells #[.slice (some ⟨g, 0, none⟩) n cap1, .int .i64 lim, .int .i64 hand'] 32))
      clear hsl hy hyd M1
      go_wp2
      refine bodyPost_ret (Bx.res_ct Try.results31 rfl (GB.load (M2.out.blk 1 rfl))) rfl ?_
      exact ⟨_, cap1, rfl, by rw [HYD.out, show ((p : Int)).toNat = p by omega]; exact (Own.reads pgC_len (M2.out.row 2 rfl)).1, M2.out.held⟩
  · have hdb : ((d.size : Int) != 128) = true := by simp; omega
    rw [write_len h128]
    clear h128 h
    have M2 := Lib.hid (((M0.out.put 1 rfl 0 (.slice A n cap)).put 1 rfl 1 (.int .i64 lim)).put 1 rfl 2 (.int .i64 hand))
    have MZ := Lib.hid (((Mem.start w).alloc #[.slice A n cap, .int .i64 lim, .int .i64 hand] 32).alloc' (b := w.heap.size + 1) (by simp) #[.slice A n cap, .int .i64 lim, .int .i64 hand] 32)
    go_enter Try.func31, Try.ntmps31
    go_wp2
    refine bodyPost_ret (Bx.res_ct Try.results31 rfl (GB.load (MZ.out.blk 1 rfl))) rfl ?_
    exact ⟨A, cap, rfl, HR.out _ MZ.out.held, MZ.out.held⟩
end Pg
end Go.Proofs.Ytgfbfmgdlbdlhaa
