/-
  Contracts: TouchPage of the reference of chapter 36.
-/
import Derived.Test.YtgfbfmgdlbdlhaaRfN
import Derived.Test.YtgfbfmgdlbdlhaaMem3
import Derived.Test.YtgfbfmgdlbdlhaaLawPg
set_option linter.unusedVariables false
set_option linter.unusedSimpArgs false
set_option maxRecDepth 100000
namespace Go.Proofs.Ytgfbfmgdlbdlhaa
open Go.RowKit Go.BigFrame Go.Sort
namespace Pg
set_option maxHeartbeats 8000000 in
theorem touch_ref_no (A : Option Addr) (n cap : Nat) (lim hand pg : Int) (L : List Pg) (w : World) (h : Sl 3 pgC w A n L) (hn : (n : Int) ≤ 1000000) (hin : (valid L lim hand && (decide (0 ≤ pg) && decide (pg < L.length))) = false) :
    Calls Try.prog 29 #[.agg #[.slice A n cap, .int .i64 lim, .int .i64 hand], .int .i64 pg] w fun e w' => e = .returned (.tuple #[.agg #[.slice A n cap, .int .i64 lim, .int .i64 hand], .int .i64 0]) ∧ Held w w' := by
  have M0 := Lib.hid (((Mem.start w).alloc #[.slice A n cap, .int .i64 lim, .int .i64 hand] 32).alloc' (b := w.heap.size + 1) (by simp) #[.slice none 0 0, .int .i64 0, .int .i64 0] 32)
  have HV := Lib.hid (fun w' (q : Held w w') => valid_ref A n cap lim hand L w' (h.held q) hn)
  unfold grV at HV
  obtain ⟨v, hv⟩ : ∃ v, valid L lim hand = v := ⟨_, rfl⟩
  rw [hv, h.1] at hin
  rw [hv] at HV
  clear hv h
  cases v
  · clear hin
    go_enter Try.func29, Try.ntmps29
    go_wp2_with fail
    refine (HV.out _ M0.out.held).mono ?_
    rintro e w1 ⟨rfl, h1⟩
    have M1 := Lib.hid (M0.out.keep h1)
    clear h1 M0 HV
    obtain ⟨⟨p0, p1, p2⟩, _, plt⟩ := M1.out.box3 0 rfl
    obtain ⟨⟨q0, q1, q2⟩, ⟨f0, f1, f2⟩, qlt⟩ := M1.out.box3 1 rfl
    have M2 := Lib.hid (((M1.out.put 1 rfl 0 (.slice A n cap)).put 1 rfl 1 (.int .i64 lim)).put 1 rfl 2 (.int .i64 hand))
    go_wp2
    exact bodyPost_ret (Bx.res_ct Try.results29 rfl (GB.load (M2.out.blk 1 rfl))) rfl ⟨rfl, M2.out.held⟩
  · simp only [Bool.true_and, Bool.and_eq_false_iff, decide_eq_false_iff_not] at hin
    by_cases g1 : pg < 0
    · clear hin
      go_enter Try.func29, Try.ntmps29
      go_wp2_with fail
      refine (HV.out _ M0.out.held).mono ?_
      rintro e w1 ⟨rfl, h1⟩
      have M1 := Lib.hid (M0.out.keep h1)
      clear h1 M0 HV
      obtain ⟨⟨p0, p1, p2⟩, _, plt⟩ := M1.out.box3 0 rfl
      obtain ⟨⟨q0, q1, q2⟩, ⟨f0, f1, f2⟩, qlt⟩ := M1.out.box3 1 rfl
      have M2 := Lib.hid (((M1.out.put 1 rfl 0 (.slice A n cap)).put 1 rfl 1 (.int .i64 lim)).put 1 rfl 2 (.int .i64 hand))
      go_wp2
      exact bodyPost_ret (Bx.res_ct Try.results29 rfl (GB.load (M2.out.blk 1 rfl))) rfl ⟨rfl, M2.out.held⟩
    · have g2 : (n : Int) ≤ pg := by omega
      clear hin
      go_enter Try.func29, Try.ntmps29
      go_wp2_with fail
      refine (HV.out _ M0.out.held).mono ?_
      rintro e w1 ⟨rfl, h1⟩
      have M1 := Lib.hid (M0.out.keep h1)
      clear h1 M0 HV
      obtain ⟨⟨p0, p1, p2⟩, _, plt⟩ := M1.out.box3 0 rfl
      obtain ⟨⟨q0, q1, q2⟩, ⟨f0, f1, f2⟩, qlt⟩ := M1.out.box3 1 rfl
      have M2 := Lib.hid (((M1.out.put 1 rfl 0 (.slice A n cap)).put 1 rfl 1 (.int .i64 lim)).put 1 rfl 2 (.int .i64 hand))
      go_wp2
      exact bodyPost_ret (Bx.res_ct Try.results29 rfl (GB.load (M2.out.blk 1 rfl))) rfl ⟨rfl, M2.out.held⟩
/-- A page stored whole. -/
theorem putPg {W w : World} {H : List Ck} (h : Mem W w H) (i : Nat) {base g n cap : Nat} {L : List Pg} (hi : H[i]? = some (.row 37 3 pgC base (.slice (some ⟨g, 0, none⟩) n cap) L)) {k : Nat} {y : Pg} (hk : L[k]? = some y) (q : Pg) :
    Mem W (((w.setCell ⟨g, k * 3, none⟩ (.int .i64 q.st)).setCell ⟨g, k * 3 + 1, none⟩ (.string q.d)).setCell ⟨g, k * 3 + 2, none⟩ (.bool q.u)) (H.set i (.row 37 3 pgC base (.slice (some ⟨g, 0, none⟩) n cap) (L.set k q))) := by
  obtain ⟨hl, _⟩ := List.getElem?_eq_some_iff.1 hi
  obtain ⟨hkl, rfl⟩ := List.getElem?_eq_some_iff.1 hk
  have hs : ∀ (H' : List Ck) (c : Ck), i < H'.length → (H'.set i c)[i]? = some c := fun H' c hh => List.getElem?_set_self hh
  have h1 := h.putAt i hi pgC_len hk (j := 0) (by decide) (.int .i64 q.st) ⟨q.st, L[k].d, L[k].u⟩ rfl
  have h2 := h1.putAt i (hs _ _ hl) pgC_len (List.getElem?_set_self hkl) (j := 1) (by decide) (.string q.d) ⟨q.st, q.d, L[k].u⟩ rfl
  have h3 := h2.putAt i (hs _ _ (by simpa using hl)) pgC_len (List.getElem?_set_self (by simpa using hkl)) (j := 2) (by decide) (.bool q.u) q rfl
  rw [List.set_set, List.set_set, List.set_set, List.set_set] at h3
  exact h3
set_option maxHeartbeats 16000000 in
theorem touch_ref_yes (A : Option Addr) (n cap : Nat) (lim hand : Int) (p : Nat) (L : List Pg) (w : World) (h : Sl 3 pgC w A n L) (hn : (n : Int) ≤ 1000000) (hv : valid L lim hand = true) (hp : p < n)
    {L' : List Pg} {hand' st : Int} (hr : touch L lim hand p = (L', hand', st)) :
    Calls Try.prog 29 #[.agg #[.slice A n cap, .int .i64 lim, .int .i64 hand], .int .i64 p] w (To lim hand' n L' [.int .i64 st] w) := by
  have M0 := Lib.hid (((Mem.start w).alloc #[.slice A n cap, .int .i64 lim, .int .i64 hand] 32).alloc' (b := w.heap.size + 1) (by simp) #[.slice none 0 0, .int .i64 0, .int .i64 0] 32)
  have HV := Lib.hid (fun w' (q : Held w w') => valid_ref A n cap lim hand L w' (h.held q) hn)
  unfold grV at HV
  rw [hv] at HV
  have HS := Lib.hid h
  have HLN := Lib.hid h.1
  have HQ := Lib.hid (And.intro hv hr)
  obtain ⟨bA, oA, rfl, hbA⟩ : ∃ b off, A = some ⟨b, off, none⟩ ∧ b < w.heap.size := by
    rcases h.2 with h0 | ⟨b, off, e, hb, _⟩
    · omega
    · exact ⟨b, off, e, hb⟩
  have hnews := Lib.hid (fun w' (q : Held w w') => Sg.sl_news (s := 3) pgC_len (by decide) (HS.out.held q))
  clear h hv hr
  go_enter Try.func29, Try.ntmps29
  go_wp2_with fail
  refine (HV.out _ M0.out.held).mono ?_
  rintro e w1 ⟨rfl, h1⟩
  have M1 := Lib.hid (M0.out.keep h1)
  clear h1 M0 HV
  obtain ⟨⟨p0, p1, p2⟩, _, plt⟩ := M1.out.box3 0 rfl
  go_wp2
  go_cut [6] (fun xp wx => ∃ xb A1 cap1, xp = .pointer (some ⟨xb, 0, none⟩) ∧ n ≤ cap1 ∧ Mem w wx [.box (w.heap.size + 1) #[.slice none 0 0, .int .i64 0, .int .i64 0] 32, .box xb #[.slice A1 n cap1, .int .i64 lim, .int .i64 hand] 32, .row 37 3 pgC w.heap.size (.slice A1 n cap1) L])
  case first =>
    have MA := Lib.hid ((M1.out.emptyRow (e := 37) (s := 3) (f := pgC) (b := w1.heap.size) rfl).drew)
    have MB := Lib.hid (((M1.out.emptyRow (e := 37) (s := 3) (f := pgC) (b := w1.heap.size) rfl).alloc' (b := w1.heap.size + 1) (by simp) #[.slice none 0 0, .int .i64 0, .int .i64 0] 32).drew)
    have MC := Lib.hid (((M1.out.alloc #[.slice none 0 0, .int .i64 0, .int .i64 0] 32).emptyRow (e := 37) (s := 3) (f := pgC) (b := w1.heap.size + 1) (by simp)).drew)
    have HC := Lib.hid (fun w' (q : Held w1 w') => And.intro (q.cell p0) (And.intro (q.cell p1) (q.cell p2)))
    go_region_held3 (fun w' => w'.cell? ⟨w.heap.size, 0, none⟩ = some (.slice (some ⟨bA, oA, none⟩) n cap) ∧ w'.cell? ⟨w.heap.size, 1, none⟩ = some (.int .i64 lim) ∧ w'.cell? ⟨w.heap.size, 2, none⟩ = some (.int .i64 hand))
      (first | exact HC.out _ (Held.refl _).drew | exact HC.out _ ((Held.refl w1).alloc _).drew | exact HC.out _ (((Held.refl w1).alloc _).alloc _).drew | exact Hid.out (by assumption))
      (first | (have M5 := MA.out; refine Mem.step_apps M5 2 rfl (by rfl) _ _ _ (by rfl) _ 32 Try.underlying30 SlcPg.info (by rfl) (by decide) pgC_len pgC_one L ⟨bA, oA, none⟩ n _ (by rfl) (by rfl) HLN.out (by omega) (hnews.out _ (Mem.held (by assumption))) 0 rfl (by omega) (by decide) ?_; intro g5 cap5 w5 M6; clear M5; simp only [Nat.zero_add, List.nil_append] at M6 ⊢; have kz := Lib.hid (M6.box3 0 rfl).1; have ky := Lib.hid ((M6.alloc #[.slice (some ⟨g5, 0, none⟩) n cap5, .int .i64 lim, .int .i64 hand] 32).box3 0 rfl).1; have kx := Lib.hid ((M6.alloc #[.slice none 0 0, .int .i64 0, .int .i64 0] 32).box3 0 rfl).1; have MX := Lib.hid ((M6.alloc #[.slice (some ⟨g5, 0, none⟩) n cap5, .int .i64 lim, .int .i64 hand] 32).sel [1, 3, 2] (by decide))) | (have M5 := MB.out; refine Mem.step_apps M5 2 rfl (by rfl) _ _ _ (by rfl) _ 32 Try.underlying30 SlcPg.info (by rfl) (by decide) pgC_len pgC_one L ⟨bA, oA, none⟩ n _ (by rfl) (by rfl) HLN.out (by omega) (hnews.out _ (Mem.held (by assumption))) 0 rfl (by omega) (by decide) ?_; intro g5 cap5 w5 M6; clear M5; simp only [Nat.zero_add, List.nil_append] at M6 ⊢; obtain ⟨⟨z0, z1, z2⟩, ⟨zf0, zf1, zf2⟩, zlt⟩ := M6.box3 3 rfl; have M7 := ((M6.put 3 rfl 0 (.slice (some ⟨g5, 0, none⟩) n cap5)).put 3 rfl 1 (.int .i64 lim)).put 3 rfl 2 (.int .i64 hand); have kz := Lib.hid (M7.box3 0 rfl).1; have ky := Lib.hid (M6.box3 0 rfl).1; have MX := Lib.hid (M7.sel [1, 3, 2] (by decide))) | (have M5 := MC.out; refine Mem.step_apps M5 3 rfl (by rfl) _ _ _ (by rfl) _ 32 Try.underlying30 SlcPg.info (by rfl) (by decide) pgC_len pgC_one L ⟨bA, oA, none⟩ n _ (by rfl) (by rfl) HLN.out (by omega) (hnews.out _ (Mem.held (by assumption))) 0 rfl (by omega) (by decide) ?_; intro g5 cap5 w5 M6; clear M5; simp only [Nat.zero_add, List.nil_append] at M6 ⊢; obtain ⟨⟨z0, z1, z2⟩, ⟨zf0, zf1, zf2⟩, zlt⟩ := M6.box3 2 rfl; have M7 := ((M6.put 2 rfl 0 (.slice (some ⟨g5, 0, none⟩) n cap5)).put 2 rfl 1 (.int .i64 lim)).put 2 rfl 2 (.int .i64 hand); have kz := Lib.hid (M7.box3 0 rfl).1; have ky := Lib.hid (M6.box3 0 rfl).1; have MX := Lib.hid (M7.sel [1, 2, 3] (by decide))))
    all_goals
      go_wp2
      go_meet
      case rel => exact ⟨_, _, _, rfl, by have := (MX.out.row 2 rfl).shape; obtain ⟨A9, c9, e9, q9, _⟩ := this; injection e9 with e9 e10 e11; omega, MX.out⟩
  case rest =>
    obtain ⟨xb, A1, cap1, rfl, hc1, M⟩ := hcut
    have M2 := Lib.hid M
    clear M M1 HS hnews p0 p1 p2 plt
    obtain ⟨⟨r0, r1, r2⟩, ⟨rf0, rf1, rf2⟩, rlt⟩ := M2.out.box3 0 rfl
    obtain ⟨⟨x0, x1, x2⟩, ⟨xf0, xf1, xf2⟩, xlt⟩ := M2.out.box3 1 rfl
    have nrx : w.heap.size + 1 ≠ xb := M2.out.ne 0 1 rfl rfl (by decide)
    obtain ⟨g, x, rfl, hg1, hg2, hx, hsl⟩ := M2.out.slot 2 rfl pgC_len (by decide) (k := p) (by rw [HLN.out]; exact hp)
    have y0 := (hsl 0 (by decide)).2 _ rfl
    have y1 := (hsl 1 (by decide)).2 _ rfl
    have y2 := (hsl 2 (by decide)).2 _ rfl
    have z0 := (hsl 0 (by decide)).1
    have z1 := (hsl 1 (by decide)).1
    have z2 := (hsl 2 (by decide)).1
    rw [Nat.add_zero] at y0 z0
    have hgd : L.getD ((p : Int)).toNat dfl = x := by rw [show ((p : Int)).toNat = p by omega, List.getD_eq_getElem?_getD, hx]; rfl
    have HX := Lib.hid hx
    have HGD := Lib.hid hgd
    have hin : (valid L lim hand && (decide (0 ≤ (p : Int)) && decide ((p : Int) < L.length))) = true := by rw [HQ.out.1, HLN.out]; simp; omega
    have HIN := Lib.hid hin
    have ngr : ¬ g = w.heap.size + 1 := fun e => M2.out.neRow 0 2 rfl rfl (by decide) (by rw [e]; rfl)
    have ngx : ¬ g = xb := fun e => M2.out.neRow 1 2 rfl rfl (by decide) (by rw [e]; rfl)
    have s1 : (0 : Int) ≤ p := by omega
    have s2 : (p : Int) < n := by omega
    clear hsl hx hgd hin
    by_cases hst : x.st = 1
    · have hsb : (x.st != 1) = false := by simp [hst]
      have HT : Hid ((L', hand', st) = (L.set p ⟨1, x.d, true⟩, hand, 1)) := by
        rw [← HQ.out.2, touch_res HIN.out (by rw [HGD.out]; exact hst), HGD.out, show ((p : Int)).toNat = p by omega]
        rfl
      have M3 := Lib.hid ((M2.out.putAt 2 rfl pgC_len HX.out (j := 2) (by decide) (.bool true) ⟨1, x.d, true⟩ (by rw [show pgC x = [.int .i64 x.st, .string x.d, .bool x.u] from rfl, hst]; rfl)))
      have M4 := Lib.hid (((M3.out.put 0 rfl 0 (.slice (some ⟨g, 0, none⟩) n cap1)).put 0 rfl 1 (.int .i64 lim)).put 0 rfl 2 (.int .i64 hand))
      rw [hst] at y0
      clear hst
      go_wp2
      refine bodyPost_ret (Bx.res_ct Try.results29 rfl (GB.load (M4.out.blk 0 rfl))) rfl ?_
      have hT := HT.out
      simp only [Prod.mk.injEq] at hT
      obtain ⟨rfl, rfl, rfl⟩ := hT
      exact ⟨_, cap1, rfl, hc1, M4.out.row 2 rfl, M4.out.held⟩
    · have hsb : (x.st != 1) = true := by simp [hst]
      have HT : Hid ((L', hand', st) = ((tch1 L lim hand).1.set p ⟨1, content ((tch1 L lim hand).1.getD p dfl), true⟩, (tch1 L lim hand).2, x.st)) := by
        rw [← HQ.out.2, touch_put HIN.out (by rw [HGD.out]; exact hst), HGD.out, show ((p : Int)).toNat = p by omega]
        rfl
      have htl := tch1_len L lim hand
      rw [HLN.out] at htl
      have HTL := Lib.hid htl
      have hcl := (valid_bd HQ.out.1).2.2.2.2
      have hsl1 := (Own.reads pgC_len (M2.out.row 2 rfl)).1
      have hT1 : Hid (¬ (count 1 L : Int) = lim → tch1 L lim hand = (L, hand)) := fun h => if_neg h
      have hT2 : Hid ((count 1 L : Int) = lim → tch1 L lim hand = (evL L hand, evH L hand)) := fun h => if_pos h
      have hT3 : Hid (∀ j (hj : j < n), ((tch1 L lim hand).1.getD j dfl).d.size ≤ 1000000) := fun j hj => by
        obtain ⟨i, hi⟩ : ∃ y, (tch1 L lim hand).1[j]? = some y := ⟨_, List.getElem?_eq_getElem (by rw [htl]; exact hj)⟩
        rw [List.getD_eq_getElem?_getD, hi]
        have hm := List.mem_of_getElem? hi
        unfold tch1 at hm
        split at hm
        · have := evL_sz (hand := hand) (valid_small HQ.out.1) i hm
          simp only [Option.getD_some]; omega
        · have := valid_small HQ.out.1 i hm
          simp only [Option.getD_some]; omega
      have hev := Lib.hid (fun h => ev_law HQ.out.1 (hand := hand) (lim := lim) (show 1 ≤ count 1 L from h))
      have hb1 := (valid_bd HQ.out.1).2.1
      obtain ⟨T, hT⟩ : ∃ T, tch1 L lim hand = T := ⟨_, rfl⟩
      simp only [hT] at HT htl hT1 hT2 hT3
      obtain ⟨L2, h2⟩ := T
      simp only at HT htl hT1 hT2 hT3
      have HTL2 := Lib.hid htl
      have HCN := Lib.hid (fun w' (q : Held wc w') => count_ref (some ⟨g, 0, none⟩) n cap1 lim hand 1 L w' (hsl1.held q) hn)
      unfold grV at HCN
      clear htl hT hst hsl1
      have k0 := cell_regrown x0
      have k1 := cell_regrown x1
      have k2 := cell_regrown x2
      have cA := Lib.hid fun dd os => Calls.regrown_of (d := dd) (os := os) (HCN.out (grow (redrawn wc dd) os) (below_regrown wc dd os))
      obtain ⟨cn, hcn⟩ : ∃ cn, count 1 L = cn := ⟨_, rfl⟩
      rw [hcn] at cA hcl hT1 hT2 hev
      go_wp2
      refine wp_region_quiet_below (by kernel_rfl) (by kernel_rfl) ?_
      repeat (go_big_quiet_step (first | (go_at_call 33; exact cA.out _ _)))
      refine wpQuiet_nil ?_
      intro _ hw'
      obtain ⟨⟨dq, osq⟩, hw''⟩ := hw'
      subst hw''
      have M6 := Lib.hid (M2.out.keep (below_regrown wc dq osq))
      obtain ⟨w6, hw6⟩ : ∃ w6, w6 = grow (redrawn wc dq) osq := ⟨_, rfl⟩
      rw [← hw6] at M6 ⊢
      clear hw6 cA k0 k1 k2 hcn HCN x0 x1 x2 xf0 xf1 xf2 r0 r1 r2 rf0 rf1 rf2 y0 y1 y2 z0 z1 z2 M2 rlt xlt hg2
      go_upto_if 51 with fail
      go_cut [] (fun wx => Mem w wx [.box (w.heap.size + 1) #[.slice none 0 0, .int .i64 0, .int .i64 0] 32, .box xb #[.slice (some ⟨g, 0, none⟩) n cap1, .int .i64 lim, .int .i64 h2] 32, .row 37 3 pgC w.heap.size (.slice (some ⟨g, 0, none⟩) n cap1) L2])
      case first =>
        by_cases hc : (cn : Int) = lim
        · have h12 := hT2.out hc
          simp only [Prod.mk.injEq] at h12
          obtain ⟨rfl, rfl⟩ := h12
          obtain ⟨v, hvl, hev1, hev2, hev3, hev4⟩ := hev.out (by omega)
          have hle : decide (lim ≤ (cn : Int)) = true := by simp; omega
          have hge : lim ≤ (cn : Int) := by omega
          have HEV := Lib.hid (And.intro hev1 (And.intro hev2 hev3))
          have hvn : v < n := by have := HLN.out; omega
          clear hc hev hT1 hT2 hT3 hev1 hev2 hev3 hev4
          rw [hle]
          go_wp2_with fail
          go_loopw [8, 9, 10] (fun us rs i wr => ∃ (k : Nat) (Au : Option Addr) (cu : Nat) (Ar : Option Addr) (cr : Nat), i = .int .i64 k ∧ k ≤ n ∧ us = .slice Au k cu ∧ rs = .slice Ar k cr ∧ Mem w wr [.box (w.heap.size + 1) #[.slice none 0 0, .int .i64 0, .int .i64 0] 32, .box xb #[.slice (some ⟨g, 0, none⟩) n cap1, .int .i64 lim, .int .i64 hand] 32, .row 37 3 pgC w.heap.size (.slice (some ⟨g, 0, none⟩) n cap1) L, .row 4 1 boC w.heap.size (.slice Au k cu) ((L.take k).map Pg.u), .row 4 1 boC w.heap.size (.slice Ar k cr) ((L.take k).map fun x => decide (x.st = 1))]) (fun _ _ i _ => n - (intOf i).toNat)
          case atStart => exact ⟨0, none, 0, none, 0, rfl, Nat.zero_le _, rfl, rfl, M6.out.nilRow.nilRow⟩
          case round =>
            obtain ⟨k, Au, cu, Ar, cr, rfl, hk, rfl, rfl, M⟩ := hrel
            have M7 := Lib.hid M
            obtain ⟨⟨x0, x1, x2⟩, _, xlt⟩ := M.box3 1 rfl
            clear M M6
            by_cases hlt : (k : Int) < n
            · obtain ⟨g', x9, e9, _, hg2, hx9, hsl⟩ := M7.out.slot 2 rfl pgC_len (by decide) (k := k) (by rw [HLN.out]; omega)
              injection e9 with e9
              injection e9 with e9
              subst e9
              have y0 := (hsl 0 (by decide)).2 _ rfl
              have y2 := (hsl 2 (by decide)).2 _ rfl
              rw [Nat.add_zero] at y0
              have hn1 : n ≤ 32 := by have := (valid_bd HQ.out.1).1; have := HLN.out; omega
              have HN : Hid (L.take (k + 1) = L.take k ++ [x9]) := by
                obtain ⟨h1, h2⟩ := List.getElem?_eq_some_iff.1 hx9
                show _ = _
                rw [List.take_succ_eq_append_getElem h1, h2]
              have HK : Hid ((L.take k).length = k) := show _ = _ by rw [List.length_take, HLN.out]; omega
              have HK1 : Hid (((L.take k).map Pg.u).length = k) := show _ = _ by rw [List.length_map]; exact HK.out
              have HK2 : Hid (((L.take k).map fun x => decide (x.st = 1)).length = k) := show _ = _ by rw [List.length_map]; exact HK.out
              have t1 : (0 : Int) ≤ k := by omega
              obtain ⟨q9, hq9⟩ : ∃ q9, (x9.st == 1) = q9 := ⟨_, rfl⟩
              have HQ9 : Hid (decide (x9.st = 1) = q9) := hq9
              have HX9 := Lib.hid hx9
              clear hsl hx9
              go_wp2_with (first | (at_builtin; refine Mem.wp_app (M7.out.skip _) 3 rfl rfl _ _ _ rfl _ 1 Try.underlying22 bool_info rfl (by decide) boC_len boC_one x9.u ⟨wr.heap.size, 0, none⟩ 1 rfl rfl (cells_new _ rfl _ _) k HK1.out (by omega) (by decide) ?_; intro g4 cp4 w4 M8; have M9 := Lib.hid M8; clear x0 x1 x2 xlt y0 y2 hg2; obtain ⟨⟨x0, x1, x2⟩, _, xlt⟩ := M8.box3 1 rfl; obtain ⟨g8, x8, e8, _, hg2, hx8, hs8⟩ := M8.slot 2 rfl pgC_len (by decide) (k := k) (by rw [HLN.out]; omega); injection e8 with e8; injection e8 with e8; subst e8; obtain rfl : x9 = x8 := (by have h8 := HX9.out.symm.trans hx8; injection h8); have y0 := (hs8 0 (by decide)).2 _ rfl; rw [Nat.add_zero] at y0; clear hx8 hs8 M8) | (at_builtin; refine Mem.wp_app (M9.out.skip _) 4 rfl rfl _ _ _ rfl _ 1 Try.underlying22 bool_info rfl (by decide) boC_len boC_one q9 ⟨w4.heap.size, 0, none⟩ 1 rfl rfl (cells_new _ rfl _ _) k HK2.out (by omega) (by decide) ?_; intro g5 cp5 w5 M10; have M11 := Lib.hid M10; clear M10))
              go_roundw
              case rel => exact ⟨k + 1, _, _, _, _, by go_num, by omega, rfl, rfl, by rw [HN.out, List.map_append, List.map_append, List.map_singleton, List.map_singleton, HQ9.out]; exact M11.out⟩
              case measure => (simp [intOf]) <;> omega
            · obtain rfl : k = n := by omega
              have htk : L.take k = L := by rw [← HLN.out, List.take_length]
              rw [htk] at M7
              have HVC := Lib.hid (victim_ref Au k cu (L.map Pg.u) Ar k cr (L.map fun x => decide (x.st = 1)) hand (-1) wr (Own.reads boC_len (M7.out.row 3 rfl)).1 (Own.reads boC_len (M7.out.row 4 rfl)).1 hn (by omega) (by have := (valid_bd HQ.out.1).2.2.1; have := HLN.out; omega) (by decide))
              have hvv : vicV (L.map Pg.u) (L.map fun x => decide (x.st = 1)) hand (-1) = v := HEV.out.1
              have hvh : vicH (L.map Pg.u) (L.map fun x => decide (x.st = 1)) hand (-1) = evH L hand := by
                unfold evH; rw [HEV.out.1, if_neg (by omega)]
              rw [hvv, hvh] at HVC
              have hvu : vicU (L.map Pg.u) (L.map fun x => decide (x.st = 1)) hand (-1) = evM L hand := rfl
              rw [hvu] at HVC
              have HEL : Hid (evL L hand = (mark L (evM L hand)).set v (putOut (L.getD v dfl).d)) := by
                show _ = _
                unfold evL
                rw [HEV.out.1, if_neg (by omega)]
                simp [List.getD_eq_getElem?_getD, show v < L.length by rw [HLN.out]; exact hvn]
              have hml : (evM L hand).length = k := by unfold evM; rw [vicU_len, List.length_map, HLN.out]
              have HML := Lib.hid hml
              obtain ⟨V, hV⟩ : ∃ V, evM L hand = V := ⟨_, rfl⟩
              obtain ⟨h9, hh9⟩ : ∃ h9, evH L hand = h9 := ⟨_, rfl⟩
              rw [hV] at HVC HEL HML
              rw [hh9] at HVC
              have HH9 := Lib.hid hh9
              clear hvv hvh hvu hml hV hh9 htk
              go_wp2_with fail
              refine HVC.out.mono ?_
              rintro e w7 ⟨A9, c9, rfl, _, hh7, ho7⟩
              have M8 := Lib.hid ((M7.out.own hh7 (ho7 (by omega))).sel [0, 1, 2, 5] (by decide))
              clear hh7 ho7 HVC x0 x1 x2 xlt
              go_wp2
              go_loopw [14] (fun i wr => ∃ j : Nat, i = .int .i64 j ∧ j ≤ k ∧ Mem w wr [.box (w.heap.size + 1) #[.slice none 0 0, .int .i64 0, .int .i64 0] 32, .box xb #[.slice (some ⟨g, 0, none⟩) k cap1, .int .i64 lim, .int .i64 hand] 32, .row 37 3 pgC w.heap.size (.slice (some ⟨g, 0, none⟩) k cap1) (markK L V j), .row 4 1 boC w.heap.size (.slice A9 k c9) V]) (fun i _ => k - (intOf i).toNat)
              case atStart => exact ⟨0, rfl, Nat.zero_le _, by rw [markK_zero]; exact M8.out⟩
              case round =>
                obtain ⟨j, rfl, hj, M⟩ := hrel
                have M9 := Lib.hid M
                obtain ⟨⟨x0, x1, x2⟩, ⟨xf0, xf1, xf2⟩, xlt⟩ := M.box3 1 rfl
                clear M M7 M8
                have hmk : (markK L V j).length = k := by rw [markK_len, HLN.out]
                by_cases hlt : (j : Int) < k
                · obtain ⟨g', y9, e9, _, hg2, hy9, hsl⟩ := M9.out.slot 2 rfl pgC_len (by decide) (k := j) (by rw [hmk]; omega)
                  injection e9 with e9
                  injection e9 with e9
                  subst e9
                  have z2 := (hsl 2 (by decide)).1
                  have y2 := (hsl 2 (by decide)).2 _ rfl
                  obtain ⟨gm, b9, rfl, _, hgm, hb9, hsm⟩ := M9.out.slot 3 rfl boC_len (by decide) (k := j) (by rw [HML.out]; omega)
                  have m0 := (hsm 0 (by decide)).2 _ rfl
                  rw [Nat.add_zero, Nat.mul_one] at m0
                  have hjL : j < L.length := by rw [HLN.out]; omega
                  have HNX := Lib.hid (markK_next L V j hjL)
                  have hVb : V.getD j false = b9 := by rw [List.getD_eq_getElem?_getD, hb9]; rfl
                  rw [hVb] at HNX
                  have hye : y9 = L[j] := by
                    have h1 := List.getElem?_eq_getElem (l := markK L V j) (i := j) (by rw [hmk]; omega)
                    rw [hy9] at h1
                    injection h1 with h1
                    rw [h1, markK_at]
                  have M10 := Lib.hid (M9.out.putAt 2 rfl pgC_len hy9 (j := 2) (by decide) (.bool b9) ⟨L[j].st, L[j].d, b9⟩ (by rw [hye]; rfl))
                  rw [HNX.out] at M10
                  have t1 : (0 : Int) ≤ j := by omega
                  clear hsl hsm hy9 hb9 hVb hye HNX hmk
                  go_wp2
                  go_region
                  all_goals
                    go_wp2
                    go_roundw
                    case rel => exact ⟨j + 1, by go_num, by omega, M10.out.drew⟩
                    case measure => (simp [intOf]) <;> omega
                · obtain rfl : j = k := by omega
                  clear hmk
                  have hma := markK_all L V
                  rw [HLN.out] at hma
                  rw [hma] at M9
                  have M11 := Lib.hid (M9.out.put 1 rfl 2 (.int .i64 h9))
                  have hml : (mark L V).length = j := by simp [mark, HLN.out]
                  clear hma
                  go_wp2
                  obtain ⟨wq, hwq⟩ : ∃ wq, wr.setCell ⟨xb, 2, none⟩ (.int .i64 h9) = wq := ⟨_, rfl⟩
                  rw [hwq] at M11 ⊢
                  clear hwq x0 x1 x2 xf0 xf1 xf2 xlt M9
                  obtain ⟨⟨x0, x1, x2⟩, ⟨xf0, xf1, xf2⟩, xlt⟩ := M11.out.box3 1 rfl
                  obtain ⟨g', y, e9, _, hg2, hy, hsl⟩ := M11.out.slot 2 rfl pgC_len (by decide) (k := v) (by rw [hml]; omega)
                  injection e9 with e9
                  injection e9 with e9
                  subst e9
                  have hvL : v < L.length := by rw [HLN.out]; exact hvn
                  have hyd : y.d = (L.getD v dfl).d := by
                    have h1 := List.getElem?_eq_getElem (l := mark L V) (i := v) (by rw [hml]; exact hvn)
                    rw [hy] at h1
                    injection h1 with h1
                    rw [h1, mark_get]
                    show L[v].d = _
                    rw [List.getD_eq_getElem?_getD, List.getElem?_eq_getElem hvL]; rfl
                  rw [← hyd] at HEL
                  have hys : y.d.size ≤ 1000000 := by
                    rw [hyd, List.getD_eq_getElem?_getD, List.getElem?_eq_getElem hvL]
                    have := valid_small HQ.out.1 _ (List.getElem_mem hvL)
                    simp only [Option.getD_some]; omega
                  have HOU := Lib.hid (fun w => out_ref y.d w hys)
                  obtain ⟨q, hq⟩ : ∃ q, putOut y.d = q := ⟨_, rfl⟩
                  rw [hq] at HOU HEL
                  unfold RetP pgV at HOU
                  have y0 := (hsl 0 (by decide)).2 _ rfl
                  have y1 := (hsl 1 (by decide)).2 _ rfl
                  have y2 := (hsl 2 (by decide)).2 _ rfl
                  have z0 := (hsl 0 (by decide)).1
                  have z1 := (hsl 1 (by decide)).1
                  have z2 := (hsl 2 (by decide)).1
                  rw [Nat.add_zero] at z0 y0
                  have HY := Lib.hid hy
                  have HFZ := Lib.hid (fun w' (h : Held wq w') => And.intro ((M11.out.keep h).box3 1 rfl).1 (And.intro (And.intro (h.cell y0) (And.intro (h.cell y1) (h.cell y2))) (And.intro ((Below.frozen h (p := ⟨g, v * 3, none⟩) hg2).trans z0) (And.intro ((Below.frozen h (p := ⟨g, v * 3 + 1, none⟩) hg2).trans z1) ((Below.frozen h (p := ⟨g, v * 3 + 2, none⟩) hg2).trans z2)))))
                  have t1 : (0 : Int) ≤ v := by omega
                  have t2 : (v : Int) < j := by omega
                  clear hsl hy hyd hys hq hml hvL
                  go_region_with (go_at_call 43; refine (HOU.out _).mono ?_; rintro e w5 ⟨rfl, h5⟩; have M12 := Lib.hid (M11.out.drew.keep h5); obtain ⟨⟨x0, x1, x2⟩, ⟨y0, y1, y2⟩, z0, z1, z2⟩ := HFZ.out _ ((Held.refl wq).drew.step h5); clear h5)
                  all_goals
                    have M13 := Lib.hid (putPg M12.out 2 rfl HY.out q)
                    go_wp2
                    go_meet
                    case rel => rw [HH9.out, HEL.out]; exact M13.out.take 3
        · have hle : decide (lim ≤ (cn : Int)) = false := by simp; omega
          have hge : ¬ lim ≤ (cn : Int) := by omega
          have h12 := hT1.out hc
          simp only [Prod.mk.injEq] at h12
          obtain ⟨rfl, rfl⟩ := h12
          clear hc
          go_wp2_with fail
          go_meet
          case rel => exact M6.out
      case rest =>
        have M14 := Lib.hid hcut
        obtain ⟨⟨x0, x1, x2⟩, ⟨xf0, xf1, xf2⟩, xlt⟩ := M14.out.box3 1 rfl
        obtain ⟨g', y, e9, _, hg2, hy, hsl⟩ := M14.out.slot 2 rfl pgC_len (by decide) (k := p) (by rw [HTL2.out]; exact hp)
        injection e9 with e9
        injection e9 with e9
        subst e9
        have hyd : L2.getD p dfl = y := by rw [List.getD_eq_getElem?_getD, hy]; rfl
        have hys := hT3.out p hp
        rw [hyd] at hys HT
        have HCT := Lib.hid (fun w => content_ref y w hys)
        obtain ⟨c, hc⟩ : ∃ c, content y = c := ⟨_, rfl⟩
        rw [hc] at HCT HT
        unfold pgV at HCT
        have y0 := (hsl 0 (by decide)).2 _ rfl
        have y1 := (hsl 1 (by decide)).2 _ rfl
        have y2 := (hsl 2 (by decide)).2 _ rfl
        have z0 := (hsl 0 (by decide)).1
        have z1 := (hsl 1 (by decide)).1
        have z2 := (hsl 2 (by decide)).1
        rw [Nat.add_zero] at z0 y0
        have HY := Lib.hid hy
        obtain ⟨wq, hwq⟩ : ∃ wq, wc = wq := ⟨_, rfl⟩
        subst hwq
        have HFZ := Lib.hid (fun w' (h : Held wc w') => And.intro ((M14.out.keep h).box3 1 rfl).1 (And.intro (And.intro (h.cell y0) (And.intro (h.cell y1) (h.cell y2))) (And.intro ((Below.frozen h (p := ⟨g, p * 3, none⟩) hg2).trans z0) (And.intro ((Below.frozen h (p := ⟨g, p * 3 + 1, none⟩) hg2).trans z1) ((Below.frozen h (p := ⟨g, p * 3 + 2, none⟩) hg2).trans z2)))))
        have HBR := Lib.hid (fun w' (h : Held wc w') => (M14.out.keep h).box3 0 rfl)
        clear hsl hy hyd hys hc hcut hT1 hT2 hT3 hev M6
        go_wp2
        go_region_with (go_at_call 44; refine (HCT.out _).mono ?_; rintro e w5 ⟨rfl, h5⟩; have M15 := Lib.hid (M14.out.drew.keep h5); obtain ⟨⟨x0, x1, x2⟩, ⟨y0, y1, y2⟩, z0, z1, z2⟩ := HFZ.out _ ((Held.refl wc).drew.step h5); obtain ⟨⟨r0, r1, r2⟩, ⟨rf0, rf1, rf2⟩, rlt⟩ := HBR.out _ ((Held.refl wc).drew.step h5); clear h5)
        all_goals
          have M16 := Lib.hid (putPg M15.out 2 rfl HY.out ⟨1, c, false⟩)
          have M17 := Lib.hid (M16.out.putAt 2 rfl pgC_len (List.getElem?_set_self (by rw [HTL2.out]; exact hp)) (j := 2) (by decide) (.bool true) ⟨1, c, true⟩ rfl)
          have M18 := Lib.hid (((M17.out.put 0 rfl 0 (.slice (some ⟨g, 0, none⟩) n cap1)).put 0 rfl 1 (.int .i64 lim)).put 0 rfl 2 (.int .i64 h2))
          go_wp2
          refine bodyPost_ret (Bx.res_ct Try.results29 rfl (GB.load (M18.out.blk 0 rfl))) rfl ?_
          have hT := HT.out
          simp only [Prod.mk.injEq] at hT
          obtain ⟨rfl, rfl, rfl⟩ := hT
          exact ⟨_, cap1, rfl, hc1, by have := M18.out.row 2 rfl; rw [List.set_set] at this; exact this, M18.out.held⟩
end Pg
end Go.Proofs.Ytgfbfmgdlbdlhaa
