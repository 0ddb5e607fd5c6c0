/-
  Contracts: Write of the pager.
-/
import Derived.Test.YtgfbfmgdlbdlhaaPgR
import Derived.Test.YtgfbfmgdlbdlhaaMem
set_option linter.unusedVariables false
set_option linter.unusedSimpArgs false
set_option maxRecDepth 100000
namespace Go.Proofs.Ytgfbfmgdlbdlhaa
open Go.RowKit Go.BigFrame Go.Sort
namespace Pg
def RetW (lim : Int) (L : List Pg) (hand : Int) (b : Bool) (w : World) (e : Ending) (w' : World) : Prop := ∃ A cap, e = .returned (.tuple #[grV A L.length cap lim hand, .bool b]) ∧ L.length ≤ cap ∧ Own 37 3 pgC w.heap.size w' (.slice A L.length cap) L ∧ Held w w'
/-- A page written: the pages, the hand, whether there is one. -/
def write (L : List Pg) (lim hand pg : Int) (d : ByteArray) : List Pg × Int × Bool :=
  if ¬ d.size = 128 then (L, hand, false) else if (touch L lim hand pg).2.2 = 0 then ((touch L lim hand pg).1, (touch L lim hand pg).2.1, false)
  else ((touch L lim hand pg).1.set pg.toNat ⟨((touch L lim hand pg).1.getD pg.toNat dfl).st, d, ((touch L lim hand pg).1.getD pg.toNat dfl).u⟩, (touch L lim hand pg).2.1, true)
theorem write_len {L : List Pg} {lim hand pg : Int} {d : ByteArray} (h : ¬ d.size = 128) : write L lim hand pg d = (L, hand, false) := if_pos h
theorem write_no {L : List Pg} {lim hand pg : Int} {d : ByteArray} (h : d.size = 128) (h0 : (touch L lim hand pg).2.2 = 0) : write L lim hand pg d = ((touch L lim hand pg).1, (touch L lim hand pg).2.1, false) := by
  unfold write; rw [if_neg (by simpa using h), if_pos h0]
theorem write_yes {L : List Pg} {lim hand pg : Int} {d : ByteArray} (h : d.size = 128) (h0 : ¬ (touch L lim hand pg).2.2 = 0) : write L lim hand pg d = ((touch L lim hand pg).1.set pg.toNat ⟨((touch L lim hand pg).1.getD pg.toNat dfl).st, d, ((touch L lim hand pg).1.getD pg.toNat dfl).u⟩, (touch L lim hand pg).2.1, true) := by
  unfold write; rw [if_neg (by simpa using h), if_neg h0]
theorem RetW.mk {lim hand : Int} {b : Bool} {r : List Pg × Int × Bool} {L : List Pg} {w w' : World} {A : Option Addr} {n cap : Nat} (hr : r = (L, hand, b)) (hn : n = L.length) (hc : n ≤ cap) (ho : Own 37 3 pgC w.heap.size w' (.slice A n cap) L) (hh : Held w w') : RetW lim r.1 r.2.1 r.2.2 w (.returned (.tuple #[grV A n cap lim hand, .bool b])) w' := by
  subst hr hn; exact ⟨A, cap, rfl, hc, ho, hh⟩
set_option maxHeartbeats 8000000 in
theorem write_any (A : Option Addr) (n cap : Nat) (lim hand pg : Int) (L : List Pg) (d : ByteArray) (w : World) (h : Sl 3 pgC w A n L) (hA : A = none → n = 0) (hn : (n : Int) ≤ 1000000) (hd : ∀ x ∈ L, (x.d.size : Int) ≤ 1000000) :
    Calls Try.prog 20 #[grV A n cap lim hand, .int .i64 pg, .string d] w (RetW lim (write L lim hand pg d).1 (write L lim hand pg d).2.1 (write L lim hand pg d).2.2 w) := by
  have HCL := Lib.hid (fun w' (q : Held w w') => clone_any A n cap lim hand L w' (h.held q) hA hn)
  have HT := Lib.hid (fun w' (q : Held w w') => touch_any A n cap lim hand pg L w' (h.held q) hA hn hd)
  have hl := touch_len L lim hand pg
  have hok := Lib.hid (@touch_ok L lim hand pg)
  have hno := Lib.hid (@write_no L lim hand pg d)
  have hyes := Lib.hid (@write_yes L lim hand pg d)
  have hlen := Lib.hid (@write_len L lim hand pg d)
  have hlL := Lib.hid h.1
  unfold grV at HT HCL
  obtain ⟨r, hr⟩ : ∃ r, touch L lim hand pg = r := ⟨_, rfl⟩
  rw [hr] at HT hl hok hno hyes
  obtain ⟨ww, hww⟩ : ∃ ww, write L lim hand pg d = ww := ⟨_, rfl⟩
  rw [hww] at hno hyes hlen ⊢
  clear hr hww
  obtain ⟨L', hand', st⟩ := r
  simp only at hl hok hno hyes
  have HL := Lib.hid hl
  clear hl h hd
  have M0 := Lib.hid (((Mem.start w).alloc #[.slice A n cap, .int .i64 lim, .int .i64 hand] 32).alloc' (b := w.heap.size + 1) (by simp) #[.slice none 0 0, .int .i64 0, .int .i64 0] 32)
  show Calls Try.prog 20 #[.agg #[.slice A n cap, .int .i64 lim, .int .i64 hand], .int .i64 pg, .string d] w _
  by_cases h128 : d.size = 128
  · have hb : ((d.size : Int) != 128) = false := by simp [h128]
    have H128 := Lib.hid h128
    clear h128 HCL hlen
    go_enter Try.func20, Try.ntmps20
    go_wp2_with fail
    refine (HT.out _ M0.out.held).mono ?_
    rintro e w1 ⟨A1, cap1, rfl, hcap, ho, h1⟩
    have M1 := Lib.hid (M0.out.own h1 ho)
    clear ho h1 M0
    unfold grV
    simp only at hcap M1 ⊢
    obtain ⟨⟨d0, d1, d2⟩, ⟨f0, f1, f2⟩, hs1⟩ := M1.out.box3 1 rfl
    have hs2 : ¬ w.heap.size + 1 = w1.heap.size := by omega
    by_cases hst : st = 0
    · have hsb : (st == 0) = true := by simp [hst]
      have HR := Lib.hid (hno.out H128.out hst)
      clear hst
      go_wp2
      have M2 := Lib.hid ((((M1.out.put 1 rfl 0 (.slice A1 L'.length cap1)).put 1 rfl 1 (.int .i64 lim)).put 1 rfl 2 (.int .i64 hand')).skip (.cells #[.slice A1 L'.length cap1, .int .i64 lim, .int .i64 hand'] 32))
      refine bodyPost_ret (Bx.res_ct Try.results20 rfl (GB.load (M2.out.blk 1 rfl))) rfl ?_
      exact RetW.mk HR.out rfl hcap (M2.out.row 2 rfl) M2.out.held
    · have hsb : (st == 0) = false := by simp [hst]
      obtain ⟨hp0, hp1⟩ := hok.out hst
      obtain ⟨p, rfl⟩ := Int.eq_ofNat_of_zero_le hp0
      have hpL : p < L'.length := by have := HL.out; omega
      have HR := Lib.hid (hyes.out H128.out hst)
      obtain ⟨g, rfl, hg1, hg2, hsl⟩ := Own.slot pgC_len (M1.out.row 2 rfl) (by decide) hpL
      obtain ⟨xx, hx⟩ : ∃ xx, L'[p] = xx := ⟨_, rfl⟩
      rw [hx] at hsl
      have x1 := (hsl 1 (by decide)).2 _ rfl
      have z1 := (hsl 1 (by decide)).1
      have hxg : L'.getD ((p : Int)).toNat dfl = xx := by rw [show ((p : Int)).toNat = p by omega, List.getD_eq_getElem?_getD, List.getElem?_eq_getElem hpL, hx]; rfl
      rw [hxg, show ((p : Int)).toNat = p by omega] at HR
      have n3 : ¬ g = w1.heap.size := by omega
      have n4 : ¬ g = w.heap.size + 1 := fun e => M1.out.neRow 1 2 rfl rfl (by decide) (by rw [e]; rfl)
      have HPL := Lib.hid hpL
      have HX := Lib.hid hx
      clear hst hsl hx hxg
      go_wp2
      have M2 := Lib.hid ((((((M1.out.putRow 2 rfl pgC_len HPL.out (j := 1) (by decide) (.string d) ⟨xx.st, d, xx.u⟩ (by rw [HX.out]; rfl))).put 1 rfl 0 (.slice (some ⟨g, 0, none⟩) L'.length cap1)).put 1 rfl 1 (.int .i64 lim)).put 1 rfl 2 (.int .i64 hand')).skip (.cells #[.slice (some ⟨g, 0, none⟩) L'.length cap1, .int .i64 lim, .int .i64 hand'] 32))
      refine bodyPost_ret (Bx.res_ct Try.results20 rfl (GB.load (M2.out.blk 1 rfl))) rfl ?_
      exact RetW.mk HR.out (by rw [List.length_set]) hcap (M2.out.row 2 rfl) M2.out.held
  · have hb : ((d.size : Int) != 128) = true := by simp; omega
    have HR := Lib.hid (hlen.out h128)
    clear h128 HT hno hyes hok
    go_enter Try.func20, Try.ntmps20
    go_wp2_with fail
    refine (HCL.out _ M0.out.held).mono ?_
    rintro e w1 ⟨A1, cap1, rfl, hcap, ho, h1⟩
    have M1 := Lib.hid (M0.out.own h1 ho)
    clear ho h1 M0
    unfold grV
    obtain ⟨⟨d0, d1, d2⟩, ⟨f0, f1, f2⟩, hs1⟩ := M1.out.box3 1 rfl
    go_wp2
    have M2 := Lib.hid (((M1.out.put 1 rfl 0 (.slice A1 L.length cap1)).put 1 rfl 1 (.int .i64 lim)).put 1 rfl 2 (.int .i64 hand))
    refine bodyPost_ret (Bx.res_ct Try.results20 rfl (GB.load (M2.out.blk 1 rfl))) rfl ?_
    exact RetW.mk HR.out rfl hcap (M2.out.row 2 rfl) M2.out.held
end Pg
end Go.Proofs.Ytgfbfmgdlbdlhaa
