/-
  Contracts: Read and Write of the pager.
-/
import Derived.Test.YtgfbfmgdlbdlhaaPgU
set_option linter.unusedVariables false
set_option linter.unusedSimpArgs false
set_option maxRecDepth 100000
namespace Go.Proofs.Ytgfbfmgdlbdlhaa
open Go.RowKit Go.BigFrame Go.Sort
theorem Bx.res_ctt {fn : Func} {tmps : Array Value} {w : World} {a b k l : Nat} {t : TypeId} {v : Value} (hr : fn.results = #[.cell a t, .tmp k, .tmp l]) (ha : tmps.getD a undef = .pointer (some ⟨b, 0, none⟩)) (hl : (loadVar t ⟨b, 0, none⟩).run Try.prog w = .ok v w) : (results fn tmps).run Try.prog w = .ok (.tuple #[v, tmps.getD k undef, tmps.getD l undef]) w := by
  unfold results
  rw [hr]
  simp only [List.mapM_toArray, List.mapM_cons, List.mapM_nil, ha, asAddr, pure_bind, Sem.run_bind, Sem.run_map, hl, Result.andThen_ok, Sem.run_pure, map_pure]
  rfl
namespace Pg
/-- The result stored ahead of a box that is laid later (the walk's own order). -/
theorem fin0 {w u : World} {tb : Nat} {A : Option Addr} {n cap : Nat} {lim hand : Int} {L : List Pg} {o : Obj} (hr : u.heap[tb]? = some (.cells #[.slice none 0 0, .int .i64 0, .int .i64 0] 32 (0, 0))) (ho : Own 37 3 pgC w.heap.size u (.slice A n cap) L) (hf : (Value.slice A n cap).ownBlock ≠ some tb) (hg : w.heap.size ≤ tb) (hh : Held w u) :
    ((((u.setCell ⟨tb, 0, none⟩ (.slice A n cap)).setCell ⟨tb, 1, none⟩ (.int .i64 lim)).setCell ⟨tb, 2, none⟩ (.int .i64 hand)).alloc o).heap[tb]? = some (.cells #[.slice A n cap, .int .i64 lim, .int .i64 hand] 32 (0, 0)) ∧
    Own 37 3 pgC w.heap.size ((((u.setCell ⟨tb, 0, none⟩ (.slice A n cap)).setCell ⟨tb, 1, none⟩ (.int .i64 lim)).setCell ⟨tb, 2, none⟩ (.int .i64 hand)).alloc o) (.slice A n cap) L ∧
    Held w ((((u.setCell ⟨tb, 0, none⟩ (.slice A n cap)).setCell ⟨tb, 1, none⟩ (.int .i64 lim)).setCell ⟨tb, 2, none⟩ (.int .i64 hand)).alloc o) := by
  have hb : (((u.setCell ⟨tb, 0, none⟩ (.slice A n cap)).setCell ⟨tb, 1, none⟩ (.int .i64 lim)).setCell ⟨tb, 2, none⟩ (.int .i64 hand)).heap[tb]? = some (.cells #[.slice A n cap, .int .i64 lim, .int .i64 hand] 32 (0, 0)) := by
    rw [Bx.set (Bx.set (Bx.set hr 0 _) 1 _) 2 _]; rfl
  have h3 : Held w (((u.setCell ⟨tb, 0, none⟩ (.slice A n cap)).setCell ⟨tb, 1, none⟩ (.int .i64 lim)).setCell ⟨tb, 2, none⟩ (.int .i64 hand)) := ((hh.set hg _).set hg _).set hg _
  exact ⟨Bx.held hb ((Held.refl _).alloc _), Own.held (((ho.far hf).far hf).far hf) ((Held.refl _).alloc _), h3.alloc _⟩
def RetR (lim : Int) (L : List Pg) (hand : Int) (s : ByteArray) (b : Bool) (w : World) (e : Ending) (w' : World) : Prop := ∃ A cap, e = .returned (.tuple #[grV A L.length cap lim hand, .string s, .bool b]) ∧ L.length ≤ cap ∧ Own 37 3 pgC w.heap.size w' (.slice A L.length cap) L ∧ Held w w'
theorem touch_len (L : List Pg) (lim hand pg : Int) : (touch L lim hand pg).1.length = L.length := by
  unfold touch
  split
  · rfl
  · split
    · rw [List.length_set]
    · rw [List.length_set, tch1_len]
/-- What Read hands back besides the pager. -/
def readS (L : List Pg) (lim hand pg : Int) : ByteArray := if (touch L lim hand pg).2.2 = 0 then ⟨#[]⟩ else ((touch L lim hand pg).1.getD pg.toNat dfl).d
theorem touch_ok {L : List Pg} {lim hand pg : Int} (h : ¬ (touch L lim hand pg).2.2 = 0) : 0 ≤ pg ∧ pg < L.length := by
  cases hb : (valid L lim hand && (decide (0 ≤ pg) && decide (pg < L.length)))
  · rw [touch_no hb] at h; exact absurd rfl h
  · simp only [Bool.and_eq_true, decide_eq_true_eq] at hb
    exact hb.2
set_option maxHeartbeats 8000000 in
theorem read_any (A : Option Addr) (n cap : Nat) (lim hand pg : Int) (L : List Pg) (w : World) (h : Sl 3 pgC w A n L) (hA : A = none → n = 0) (hn : (n : Int) ≤ 1000000) (hd : ∀ x ∈ L, (x.d.size : Int) ≤ 1000000) :
    Calls Try.prog 15 #[grV A n cap lim hand, .int .i64 pg] w (RetR lim (touch L lim hand pg).1 (touch L lim hand pg).2.1 (readS L lim hand pg) (decide (¬ (touch L lim hand pg).2.2 = 0)) w) := by
  have HT := Lib.hid (fun w' (q : Held w w') => touch_any A n cap lim hand pg L w' (h.held q) hA hn hd)
  have hl := touch_len L lim hand pg
  have hok := Lib.hid (@touch_ok L lim hand pg)
  have hrs : readS L lim hand pg = if (touch L lim hand pg).2.2 = 0 then ⟨#[]⟩ else ((touch L lim hand pg).1.getD pg.toNat dfl).d := rfl
  unfold grV at HT
  rw [hrs]
  obtain ⟨r, hr⟩ : ∃ r, touch L lim hand pg = r := ⟨_, rfl⟩
  rw [hr] at HT hl hok ⊢
  clear hr hrs
  obtain ⟨L', hand', st⟩ := r
  simp only at hl hok ⊢
  obtain ⟨rs, hrs⟩ : ∃ rs, (if st = 0 then (⟨#[]⟩ : ByteArray) else (L'.getD pg.toNat dfl).d) = rs := ⟨_, rfl⟩
  obtain ⟨rb, hrb⟩ : ∃ rb, decide (¬ st = 0) = rb := ⟨_, rfl⟩
  rw [hrs, hrb]
  have HRR := Lib.hid (And.intro hrs hrb)
  clear hrs hrb
  have HL := Lib.hid hl
  clear hl h hd
  have W0 := Lib.hid (((Held.refl w).alloc (.cells #[.slice A n cap, .int .i64 lim, .int .i64 hand] 32)).alloc (.cells #[.slice none 0 0, .int .i64 0, .int .i64 0] 32))
  show Calls Try.prog 15 #[.agg #[.slice A n cap, .int .i64 lim, .int .i64 hand], .int .i64 pg] w _
  go_enter Try.func15, Try.ntmps15
  go_wp2_with fail
  refine (HT.out _ W0.out).mono ?_
  rintro e w1 ⟨A1, cap1, rfl, hcap, ho, h1⟩
  unfold grV
  simp only at hcap ho ⊢
  have hlw := h1.le
  simp only [World.size_alloc] at hlw
  have hr : w1.heap[w.heap.size + 1]? = some (.cells #[.slice none 0 0, .int .i64 0, .int .i64 0] 32 (0, 0)) := (h1.block _ (by simp)).trans (by have := Bx.new (w.alloc (.cells #[.slice A n cap, .int .i64 lim, .int .i64 hand] 32)) (.cells #[.slice none 0 0, .int .i64 0, .int .i64 0] 32); simpa using this)
  have hs1 := Bx.lt hr
  have hs2 : ¬ w.heap.size + 1 = w1.heap.size := by omega
  have d0 := Bx.cell hr 0 rfl
  have d1 := Bx.cell hr 1 rfl
  have d2 := Bx.cell hr 2 rfl
  have f0 := Bx.free hr 0
  have f1 := Bx.free hr 1
  have f2 := Bx.free hr 2
  have TS1 : Hid (TS w w1.heap.size (w.heap.size + 1) A1 L'.length cap1 lim hand' L' (w1.alloc (.cells #[.slice A1 L'.length cap1, .int .i64 lim, .int .i64 hand'] 32))) := by
    refine ⟨⟨Bx.new w1 _, Own.held (Own.mono ho W0.out.le) ((Held.refl w1).alloc _), fun g hg => ?_, by have := W0.out.le; omega, (W0.out.step h1).alloc _⟩, Bx.held hr ((Held.refl w1).alloc _), by omega, fun he => ?_, by omega⟩
    · have := (World.ownsRow.lt ho g hg).2; omega
    · have := (World.ownsRow.lt ho _ he).1; simp at this; omega
  have HO := Lib.hid ho
  have hfo : (Value.slice A1 L'.length cap1).ownBlock ≠ some (w.heap.size + 1) := fun he => by
    have := (World.ownsRow.lt ho _ he).1; simp at this; omega
  have HFIN := Lib.hid (fun o => fin0 (lim := lim) (hand := hand') (o := o) hr (Own.mono ho W0.out.le) hfo (by omega) (W0.out.step h1))
  have HFO := Lib.hid hfo
  clear ho h1 hr hlw TS1 hfo
  by_cases hst : st = 0
  · have hsb : (st == 0) = true := by simp [hst]
    have HRS : Hid (rs = ⟨#[]⟩ ∧ rb = false) := And.intro (HRR.out.1.symm.trans (if_pos hst)) (HRR.out.2.symm.trans (by simp [hst]))
    clear hst HRR
    go_wp2
    refine bodyPost_ret (Bx.res_ctt Try.results15 rfl (GB.load (HFIN.out _).1)) rfl ?_
    exact ⟨A1, cap1, by rw [HRS.out.1, HRS.out.2]; rfl, hcap, (HFIN.out _).2.1, (HFIN.out _).2.2⟩
  · have hsb : (st == 0) = false := by simp [hst]
    obtain ⟨hp0, hp1⟩ := hok.out hst
    obtain ⟨p, rfl⟩ := Int.eq_ofNat_of_zero_le hp0
    have hpL : p < L'.length := by have := HL.out; omega
    obtain ⟨g, rfl, hg1, hg2, hsl⟩ := Own.slot pgC_len HO.out (by decide) hpL
    obtain ⟨xx, hx⟩ : ∃ xx, L'[p] = xx := ⟨_, rfl⟩
    rw [hx] at hsl
    have x1 := (hsl 1 (by decide)).2 _ rfl
    have n3 : ¬ g = w1.heap.size := by omega
    have HRS : Hid (rs = xx.d ∧ rb = true) := And.intro (by rw [← HRR.out.1, if_neg hst, show ((p : Int)).toNat = p by omega, List.getD_eq_getElem?_getD, List.getElem?_eq_getElem hpL, hx]; rfl) (HRR.out.2.symm.trans (by simp [hst]))
    clear hst hsl hx HRR
    have n4 : ¬ g = w.heap.size + 1 := fun e => HFO.out (by rw [e]; rfl)
    go_wp2
    go_region
    all_goals
      go_wp2
      refine bodyPost_ret (Bx.res_ctt Try.results15 rfl (GB.load (HFIN.out _).1)) rfl ?_
      exact ⟨_, cap1, by rw [HRS.out.1, HRS.out.2]; rfl, hcap, Own.held (HFIN.out _).2.1 (Held.refl _).drew, (HFIN.out _).2.2.drew⟩
end Pg
end Go.Proofs.Ytgfbfmgdlbdlhaa
