/-
  Contracts: Touch of the pager.
-/
import Derived.Test.YtgfbfmgdlbdlhaaPgT
set_option linter.unusedVariables false
set_option linter.unusedSimpArgs false
set_option maxRecDepth 100000
namespace Go.Proofs.Ytgfbfmgdlbdlhaa
open Go.RowKit Go.BigFrame Go.Sort
namespace Pg
def dfl : Pg := ⟨0, ⟨#[]⟩, false⟩
def tch1 (L : List Pg) (lim hand : Int) : List Pg × Int := if (count 1 L : Int) = lim then (evL L hand, evH L hand) else (L, hand)
/-- A page touched: the pages, the hand, the state before (0: there is none). -/
def touch (L : List Pg) (lim hand pg : Int) : List Pg × Int × Int :=
  if (valid L lim hand && (decide (0 ≤ pg) && decide (pg < L.length))) = false then (L, hand, 0)
  else if (L.getD pg.toNat dfl).st = 1 then (L.set pg.toNat ⟨1, (L.getD pg.toNat dfl).d, true⟩, hand, 1)
  else ((tch1 L lim hand).1.set pg.toNat ⟨1, content ((tch1 L lim hand).1.getD pg.toNat dfl), true⟩, (tch1 L lim hand).2, (L.getD pg.toNat dfl).st)
theorem touch_no {L : List Pg} {lim hand pg : Int} (h : (valid L lim hand && (decide (0 ≤ pg) && decide (pg < L.length))) = false) : touch L lim hand pg = (L, hand, 0) := if_pos h
theorem touch_res {L : List Pg} {lim hand pg : Int} (h : (valid L lim hand && (decide (0 ≤ pg) && decide (pg < L.length))) = true) (h1 : (L.getD pg.toNat dfl).st = 1) : touch L lim hand pg = (L.set pg.toNat ⟨1, (L.getD pg.toNat dfl).d, true⟩, hand, 1) := by
  unfold touch; rw [if_neg (by rw [h]; decide), if_pos h1]
theorem touch_put {L : List Pg} {lim hand pg : Int} (h : (valid L lim hand && (decide (0 ≤ pg) && decide (pg < L.length))) = true) (h1 : ¬ (L.getD pg.toNat dfl).st = 1) : touch L lim hand pg = ((tch1 L lim hand).1.set pg.toNat ⟨1, content ((tch1 L lim hand).1.getD pg.toNat dfl), true⟩, (tch1 L lim hand).2, (L.getD pg.toNat dfl).st) := by
  unfold touch; rw [if_neg (by rw [h]; decide), if_neg h1]
theorem valid_bd {L : List Pg} {lim hand : Int} (h : valid L lim hand = true) : (1 ≤ L.length ∧ L.length ≤ 32) ∧ (1 ≤ lim ∧ lim ≤ L.length) ∧ (0 ≤ hand ∧ hand < L.length) ∧ L.all okP = true ∧ (count 1 L : Int) ≤ lim := by
  unfold valid at h
  split at h
  · cases h
  · rw [Bool.and_eq_true, decide_eq_true_eq] at h
    exact ⟨by omega, by omega, by omega, h.1, h.2⟩
theorem putOut_sz (d : ByteArray) (h : (d.size : Int) ≤ 1000000) : ((putOut d).d.size : Int) ≤ 1000000 := by
  unfold putOut
  split
  · simp only; omega
  · exact h
theorem mark_mem {L : List Pg} {M : List Bool} {x : Pg} (h : x ∈ mark L M) : ∃ y ∈ L, x.d = y.d := by
  obtain ⟨i, hi, rfl⟩ := List.mem_iff_getElem.1 h
  have hi' : i < L.length := by simpa [mark] using hi
  exact ⟨L[i], List.getElem_mem hi', by simp [mark]⟩
theorem evL_sz {L : List Pg} {hand : Int} (hd : ∀ x ∈ L, (x.d.size : Int) ≤ 1000000) : ∀ x ∈ evL L hand, (x.d.size : Int) ≤ 1000000 := by
  intro x hx
  unfold evL at hx
  split at hx
  · exact hd x hx
  · rcases List.mem_or_eq_of_mem_set hx with h | rfl
    · obtain ⟨y, hy, e⟩ := mark_mem h
      rw [e]; exact hd y hy
    · apply putOut_sz
      cases hq : L[(evV L hand).toNat]? with
      | none => show ((0 : Nat) : Int) ≤ 1000000; decide
      | some y => simpa using hd y (List.mem_of_getElem? hq)
theorem evL_len (L : List Pg) (hand : Int) : (evL L hand).length = L.length := by
  unfold evL
  split
  · rfl
  · rw [List.length_set]; simp [mark]
theorem tch1_len (L : List Pg) (lim hand : Int) : (tch1 L lim hand).1.length = L.length := by
  unfold tch1; split
  · exact evL_len _ _
  · rfl
/-- Touch under way: the new pager in its box, the result's box still empty. -/
structure TS (w : World) (rb tb : Nat) (A : Option Addr) (n cap : Nat) (lim hand : Int) (L : List Pg) (u : World) : Prop where
  gr : Gr w rb A n cap lim hand L u
  res : u.heap[tb]? = some (.cells #[.slice none 0 0, .int .i64 0, .int .i64 0] 32 (0, 0))
  ne : tb ≠ rb
  far : (Value.slice A n cap).ownBlock ≠ some tb
  ge : w.heap.size ≤ tb
theorem TS.keep {w u u' : World} {rb tb : Nat} {A : Option Addr} {n cap : Nat} {lim hand : Int} {L : List Pg} (h : TS w rb tb A n cap lim hand L u) (k : Held u u') : TS w rb tb A n cap lim hand L u' :=
  ⟨h.gr.keep k, Bx.held h.res k, h.ne, h.far, h.ge⟩
theorem TS.evict {w u u' : World} {rb tb : Nat} {A : Option Addr} {n cap : Nat} {lim hand hand' : Int} {L L' : List Pg} (h : TS w rb tb A n cap lim hand L u) (g : Gr w rb A n cap lim hand' L' u') (k : Kb rb (.slice A n cap) u u') : TS w rb tb A n cap lim hand' L' u' :=
  ⟨g, (k.block tb (Bx.lt h.res) h.ne h.far).trans h.res, h.ne, h.far, h.ge⟩
/-- The result, stored and handed back. -/
theorem TS.fin {w u : World} {rb tb : Nat} {A : Option Addr} {n cap : Nat} {lim hand : Int} {L : List Pg} (h : TS w rb tb A n cap lim hand L u) :
    (((u.setCell ⟨tb, 0, none⟩ (.slice A n cap)).setCell ⟨tb, 1, none⟩ (.int .i64 lim)).setCell ⟨tb, 2, none⟩ (.int .i64 hand)).heap[tb]? = some (.cells #[.slice A n cap, .int .i64 lim, .int .i64 hand] 32 (0, 0)) ∧
    Own 37 3 pgC w.heap.size (((u.setCell ⟨tb, 0, none⟩ (.slice A n cap)).setCell ⟨tb, 1, none⟩ (.int .i64 lim)).setCell ⟨tb, 2, none⟩ (.int .i64 hand)) (.slice A n cap) L ∧
    Held w (((u.setCell ⟨tb, 0, none⟩ (.slice A n cap)).setCell ⟨tb, 1, none⟩ (.int .i64 lim)).setCell ⟨tb, 2, none⟩ (.int .i64 hand)) := by
  refine ⟨?_, ((h.gr.own.far h.far).far h.far).far h.far, ((h.gr.held.set h.ge _).set h.ge _).set h.ge _⟩
  rw [Bx.set (Bx.set (Bx.set h.res 0 _) 1 _) 2 _]; rfl
theorem TS.facts {w u : World} {rb tb : Nat} {A : Option Addr} {n cap : Nat} {lim hand : Int} {L : List Pg} (h : TS w rb tb A n cap lim hand L u) :
    (u.cell? ⟨rb, 0, none⟩ = some (.slice A n cap) ∧ u.cell? ⟨rb, 1, none⟩ = some (.int .i64 lim) ∧ u.cell? ⟨rb, 2, none⟩ = some (.int .i64 hand)) ∧
    (u.cell? ⟨tb, 0, none⟩ = some (.slice none 0 0) ∧ u.cell? ⟨tb, 1, none⟩ = some (.int .i64 0) ∧ u.cell? ⟨tb, 2, none⟩ = some (.int .i64 0)) ∧
    (u.frozen? ⟨tb, 0, none⟩ = false ∧ u.frozen? ⟨tb, 1, none⟩ = false ∧ u.frozen? ⟨tb, 2, none⟩ = false) ∧ tb < u.heap.size :=
  ⟨⟨Bx.cell h.gr.box 0 rfl, Bx.cell h.gr.box 1 rfl, Bx.cell h.gr.box 2 rfl⟩, ⟨Bx.cell h.res 0 rfl, Bx.cell h.res 1 rfl, Bx.cell h.res 2 rfl⟩, ⟨Bx.free h.res 0, Bx.free h.res 1, Bx.free h.res 2⟩, Bx.lt h.res⟩
theorem TS.put {w u : World} {rb tb g n cap : Nat} {lim hand : Int} {L : List Pg} (h : TS w rb tb (some ⟨g, 0, none⟩) n cap lim hand L u) {k i : Nat} (hk : k < L.length) (hi : i < 3) (v : Value) (x : Pg) (hx : pgC x = (pgC L[k]).set i v) : TS w rb tb (some ⟨g, 0, none⟩) n cap lim hand (L.set k x) (u.setCell ⟨g, k * 3 + i, none⟩ v) :=
  ⟨h.gr.put hk hi v x hx, (Bx.far (fun e => h.far (by rw [e]; rfl))).trans h.res, h.ne, h.far, h.ge⟩
theorem TS.putAll {w u : World} {rb tb g n cap : Nat} {lim hand : Int} {L : List Pg} (h : TS w rb tb (some ⟨g, 0, none⟩) n cap lim hand L u) {k : Nat} (hk : k < L.length) (y : Pg) : TS w rb tb (some ⟨g, 0, none⟩) n cap lim hand (L.set k y) (((u.setCell ⟨g, k * 3, none⟩ (.int .i64 y.st)).setCell ⟨g, k * 3 + 1, none⟩ (.string y.d)).setCell ⟨g, k * 3 + 2, none⟩ (.bool y.u)) := by
  have h1 := h.put hk (i := 0) (by decide) (.int .i64 y.st) ⟨y.st, L[k].d, L[k].u⟩ rfl
  have h2 := h1.put (k := k) (i := 1) (by simpa using hk) (by decide) (.string y.d) ⟨y.st, y.d, L[k].u⟩ (by rw [List.getElem_set_self]; rfl)
  have h3 := h2.put (k := k) (i := 2) (by simpa using hk) (by decide) (.bool y.u) y (by rw [List.getElem_set_self]; rfl)
  rw [List.set_set, List.set_set] at h3
  exact h3
def RetT (lim : Int) (r : List Pg × Int × Int) (w : World) (e : Ending) (w' : World) : Prop := ∃ A cap, e = .returned (.tuple #[grV A r.1.length cap lim r.2.1, .int .i64 r.2.2]) ∧ r.1.length ≤ cap ∧ Own 37 3 pgC w.heap.size w' (.slice A r.1.length cap) r.1 ∧ Held w w'
theorem RetT.mk {lim hand st : Int} {r : List Pg × Int × Int} {L : List Pg} {w w' : World} {A : Option Addr} {n cap : Nat} (hr : r = (L, hand, st)) (hn : n = L.length) (hc : n ≤ cap) (ho : Own 37 3 pgC w.heap.size w' (.slice A n cap) L) (hh : Held w w') : RetT lim r w (.returned (.tuple #[grV A n cap lim hand, .int .i64 st])) w' := by
  subst hr hn; exact ⟨A, cap, rfl, hc, ho, hh⟩
set_option maxHeartbeats 8000000 in
theorem touch_any (A : Option Addr) (n cap : Nat) (lim hand pg : Int) (L : List Pg) (w : World) (h : Sl 3 pgC w A n L) (hA : A = none → n = 0) (hn : (n : Int) ≤ 1000000) (hd : ∀ x ∈ L, (x.d.size : Int) ≤ 1000000) :
    Calls Try.prog 21 #[grV A n cap lim hand, .int .i64 pg] w (RetT lim (touch L lim hand pg) w) := by
  have HS := Lib.hid h
  have HLN := Lib.hid h.1
  have hln := h.1
  have HD := Lib.hid hd
  clear h hd
  have HCL := Lib.hid (fun w' (q : Held w w') => clone_any A n cap lim hand L w' (HS.out.held q) hA hn)
  have HHS := Lib.hid (fun w' (q : Held w w') => has_any A n cap lim hand pg L w' (HS.out.held q) hn HD.out)
  unfold grV at HCL HHS
  have W0 := Lib.hid (((Held.refl w).alloc (.cells #[.slice A n cap, .int .i64 lim, .int .i64 hand] 32)).alloc (.cells #[.slice none 0 0, .int .i64 0, .int .i64 0] 32))
  obtain ⟨hb, hbe⟩ : ∃ b, (valid L lim hand && (decide (0 ≤ pg) && decide (pg < n))) = b := ⟨_, rfl⟩
  rw [hbe] at HHS
  rw [← hln] at hbe
  have HBE := Lib.hid hbe
  clear hbe hln
  show Calls Try.prog 21 #[.agg #[.slice A n cap, .int .i64 lim, .int .i64 hand], .int .i64 pg] w _
  go_enter Try.func21, Try.ntmps21
  go_wp2_with fail
  refine (HCL.out _ W0.out).mono ?_
  rintro e w1 ⟨A1, cap1, rfl, hcap, ho, h1⟩
  unfold grV
  have hcp := h1.cell (p := ⟨w.heap.size, 0, none⟩) (v := .slice A n cap) (by simp)
  have hcp1 := h1.cell (p := ⟨w.heap.size, 1, none⟩) (v := .int .i64 lim) (by simp)
  have hcp2 := h1.cell (p := ⟨w.heap.size, 2, none⟩) (v := .int .i64 hand) (by simp)
  have hlw := h1.le
  simp only [World.size_alloc] at hlw
  have hs1 : w.heap.size < w1.heap.size := by omega
  have hs2 : ¬ w.heap.size = w1.heap.size := by omega
  have TS1 : Hid (TS w w1.heap.size (w.heap.size + 1) A1 L.length cap1 lim hand L (w1.alloc (.cells #[.slice A1 L.length cap1, .int .i64 lim, .int .i64 hand] 32))) := by
    have hr : w1.heap[w.heap.size + 1]? = some (.cells #[.slice none 0 0, .int .i64 0, .int .i64 0] 32 (0, 0)) := (h1.block _ (by simp)).trans (by have := Bx.new (w.alloc (.cells #[.slice A n cap, .int .i64 lim, .int .i64 hand] 32)) (.cells #[.slice none 0 0, .int .i64 0, .int .i64 0] 32); simpa using this)
    have hlt := Bx.lt hr
    refine ⟨⟨Bx.new w1 _, Own.held (Own.mono ho W0.out.le) ((Held.refl w1).alloc _), fun g hg => ?_, by have := W0.out.le; omega, (W0.out.step h1).alloc _⟩, Bx.held hr ((Held.refl w1).alloc _), by omega, fun he => ?_, by omega⟩
    · have := (World.ownsRow.lt ho g hg).2; omega
    · have := (World.ownsRow.lt ho _ he).1; simp at this; omega
  have W1 := Lib.hid ((W0.out.step h1).alloc (.cells #[.slice A1 L.length cap1, .int .i64 lim, .int .i64 hand] 32))
  clear ho h1
  go_wp2_with fail
  refine (HHS.out _ W1.out).mono ?_
  rintro e w2 ⟨rfl, h2⟩
  have T2 := Lib.hid (TS1.out.keep h2)
  clear h2 TS1 W1 hcp hcp1 hcp2 HCL HHS hs1 hs2
  obtain ⟨rb, hrb⟩ : ∃ rb, rb = w1.heap.size := ⟨_, rfl⟩
  obtain ⟨tb, htb⟩ : ∃ tb, tb = w.heap.size + 1 := ⟨_, rfl⟩
  rw [← hrb, ← htb] at T2 ⊢
  clear hrb htb hlw
  obtain ⟨⟨c0, c1, c2⟩, ⟨d0, d1, d2⟩, ⟨f0, f1, f2⟩, hlt⟩ := T2.out.facts
  cases hb
  · have HR := Lib.hid (touch_no HBE.out)
    have HF := Lib.hid T2.out.fin
    go_wp2
    refine bodyPost_ret (Bx.res_ct Try.results21 rfl (GB.load HF.out.1)) rfl ?_
    exact RetT.mk HR.out rfl hcap HF.out.2.1 HF.out.2.2
  · have hbb := HBE.out
    rw [Bool.and_eq_true, Bool.and_eq_true, decide_eq_true_eq, decide_eq_true_eq] at hbb
    obtain ⟨hv, hp0, hp1⟩ := hbb
    obtain ⟨⟨v1, v2⟩, ⟨v3, v4⟩, ⟨v5, v6⟩, _, _⟩ := valid_bd hv
    obtain ⟨p, rfl⟩ := Int.eq_ofNat_of_zero_le hp0
    have hpL : p < L.length := by omega
    clear hv hp0
    obtain ⟨g, rfl, hg1, hg2, hsl⟩ := Own.slot pgC_len T2.out.gr.own (by decide) hpL
    obtain ⟨x, hx⟩ : ∃ x, L[p] = x := ⟨_, rfl⟩
    rw [hx] at hsl
    have hgd : L.getD (Int.toNat (p : Int)) dfl = x := by rw [show ((p : Int)).toNat = p by omega, List.getD_eq_getElem?_getD, List.getElem?_eq_getElem hpL, hx]; rfl
    have hpt : ((p : Int)).toNat = p := by omega
    have x0 := (hsl 0 (by decide)).2 _ rfl
    have x1 := (hsl 1 (by decide)).2 _ rfl
    have x2 := (hsl 2 (by decide)).2 _ rfl
    have z2 := (hsl 2 (by decide)).1
    rw [Nat.add_zero] at x0
    have n1 : ¬ g = rb := T2.out.gr.ne g rfl
    have n2 : ¬ g = tb := fun e => T2.out.far (by rw [e]; rfl)
    have n3 : ¬ tb = rb := T2.out.ne
    have HX := Lib.hid hx
    have HGD := Lib.hid hgd
    have HPL := Lib.hid hpL
    have HPT := Lib.hid hpt
    clear hx hgd hsl hpt
    by_cases hs : x.st = 1
    · have hsb : (x.st != 1) = false := by simp [hs]
      have HR := Lib.hid (touch_res HBE.out (by rw [HGD.out]; exact hs))
      have HP := Lib.hid (T2.out.put (k := p) (i := 2) HPL.out (by decide) (.bool true) ⟨x.st, x.d, true⟩ (by rw [HX.out]; rfl)).fin
      have HSS := Lib.hid hs
      clear hs
      go_wp2
      refine bodyPost_ret (Bx.res_ct Try.results21 rfl (GB.load HP.out.1)) rfl ?_
      exact RetT.mk (by rw [HR.out, HGD.out, HPT.out, HSS.out]) (by rw [List.length_set]) (by exact hcap) HP.out.2.1 HP.out.2.2
    · have hsb : (x.st != 1) = true := by simp [hs]
      have HR := Lib.hid (touch_put HBE.out (by rw [HGD.out]; exact hs))
      have hr := T2.out.gr.own.reads pgC_len
      have cA := Lib.hid fun dd os => Calls.regrown_of (d := dd) (os := os) (count_any (some ⟨g, 0, none⟩) L.length cap1 lim hand 1 L (grow (redrawn w2 dd) os) (hr.1.held (below_regrown w2 dd os)) (by omega))
      unfold grV at cA
      have k0 := cell_regrown c0
      have k1 := cell_regrown c1
      have k2 := cell_regrown c2
      clear hs hr
      obtain ⟨c, hc⟩ : ∃ c, count 1 L = c := ⟨_, rfl⟩
      rw [hc] at cA
      by_cases hcl : (c : Int) = lim
      · have hcb : ((c : Int) == lim) = true := by simp [hcl]
        have HTC : Hid (tch1 L lim hand = (evL L hand, evH L hand)) := show _ = _ by unfold tch1; rw [hc, if_pos hcl]
        have HLEN : Hid ((evL L hand).length = L.length) := evL_len L hand
        have HSZ := Lib.hid (evL_sz (hand := hand) HD.out)
        clear hc hcl
        go_wp2
        refine wp_region_quiet_below (by kernel_rfl) (by kernel_rfl) ?_
        repeat (go_big_quiet_step (first | (go_at_call 23; exact cA.out _ _)))
        refine wpQuiet_nil ?_
        intro _ hw'
        obtain ⟨⟨dq, osq⟩, hw''⟩ := hw'
        subst hw''
        have T3 := Lib.hid (T2.out.keep (below_regrown w2 dq osq))
        obtain ⟨w3, hw3⟩ : ∃ w3, w3 = grow (redrawn w2 dq) osq := ⟨_, rfl⟩
        rw [← hw3] at T3 ⊢
        clear hw3 cA k0 k1 k2 c0 c1 c2 d0 d1 d2 f0 f1 f2 x0 x1 x2 z2 hlt
        go_wp2_with fail
        refine (evict_any w w3 rb _ _ _ lim hand L T3.out.gr v1 v2 v5 v6 HD.out).mono ?_
        rintro e w4 ⟨rfl, hgr, hkb⟩
        have T4 := Lib.hid (T3.out.evict hgr hkb)
        clear hgr hkb
        have hpL1 : p < (evL L hand).length := by rw [HLEN.out]; exact HPL.out
        obtain ⟨g', hge, _, hg2', hsl⟩ := Own.slot pgC_len T4.out.gr.own (by decide) hpL1
        injection hge with hge
        injection hge with hge
        subst hge
        obtain ⟨x', hx'⟩ : ∃ x', (evL L hand)[p] = x' := ⟨_, rfl⟩
        rw [hx'] at hsl
        have y0 := (hsl 0 (by decide)).2 _ rfl
        have y1 := (hsl 1 (by decide)).2 _ rfl
        have y2 := (hsl 2 (by decide)).2 _ rfl
        have z0 := (hsl 0 (by decide)).1
        have z1 := (hsl 1 (by decide)).1
        have z2 := (hsl 2 (by decide)).1
        rw [Nat.add_zero] at y0 z0
        have hgd' : (evL L hand).getD p dfl = x' := by rw [List.getD_eq_getElem?_getD, List.getElem?_eq_getElem hpL1, hx']; rfl
        have hxd := HSZ.out x' (hx' ▸ List.getElem_mem hpL1)
        have HC := Lib.hid (fun w => content_any x' w (by omega))
        unfold pgV at HC
        obtain ⟨ct, hct⟩ : ∃ ct, content x' = ct := ⟨_, rfl⟩
        rw [hct] at HC
        obtain ⟨⟨c0, c1, c2⟩, ⟨d0, d1, d2⟩, ⟨f0, f1, f2⟩, hlt⟩ := T4.out.facts
        have HF := Lib.hid (fun w' (h : Held w4 w') => And.intro (And.intro (h.cell c0) (And.intro (h.cell c1) (h.cell c2))) (And.intro (And.intro (h.cell y0) (And.intro (h.cell y1) (h.cell y2))) (And.intro ((Below.frozen h (p := ⟨g, p * 3, none⟩) hg2').trans z0) (And.intro ((Below.frozen h (p := ⟨g, p * 3 + 1, none⟩) hg2').trans z1) ((Below.frozen h (p := ⟨g, p * 3 + 2, none⟩) hg2').trans z2)))))
        have HTF := Lib.hid (fun w' (h : Held w4 w') => (T4.out.keep h).facts)
        have HFIN := Lib.hid (fun w' (h : Held w4 w') => (((T4.out.keep h).putAll hpL1 ⟨1, ct, false⟩).put (k := p) (i := 2) (by rw [List.length_set]; exact hpL1) (by decide) (.bool true) ⟨1, ct, true⟩ (by rw [List.getElem_set_self]; rfl)).fin)
        have HR2 : Hid (touch L lim hand p = ((evL L hand).set p ⟨1, ct, true⟩, evH L hand, x.st)) := show _ = _ by
          rw [HR.out, HGD.out, HPT.out, HTC.out]
          show ((evL L hand).set p ⟨1, content ((evL L hand).getD p dfl), true⟩, evH L hand, x.st) = _
          rw [hgd', hct]
        clear hsl hx' hgd' hct hxd d0 d1 d2 f0 f1 f2 hlt
        go_wp2
        go_region_with (first | (go_at_call 38; refine (HC.out _).mono ?_; rintro e w5 ⟨rfl, h5⟩; have H5 := Lib.hid ((Held.refl w4).drew.step h5); obtain ⟨⟨c0, c1, c2⟩, ⟨y0, y1, y2⟩, z0, z1, z2⟩ := HF.out _ H5.out; obtain ⟨_, ⟨d0, d1, d2⟩, ⟨f0, f1, f2⟩, hlt⟩ := HTF.out _ H5.out; clear h5))
        all_goals
          go_wp2
          have HFI := Lib.hid (HFIN.out _ H5.out)
          refine bodyPost_ret (Bx.res_ct Try.results21 rfl (GB.load HFI.out.1)) rfl ?_
          exact RetT.mk (by rw [HR2.out, List.set_set]) (by rw [List.length_set, List.length_set, HLEN.out]) hcap HFI.out.2.1 HFI.out.2.2
      · have hcb : ((c : Int) == lim) = false := by simp [hcl]
        have HTC : Hid (tch1 L lim hand = (L, hand)) := show _ = _ by unfold tch1; rw [hc, if_neg hcl]
        have HSZ := HD
        clear hc hcl
        go_wp2
        refine wp_region_quiet_below (by kernel_rfl) (by kernel_rfl) ?_
        repeat (go_big_quiet_step (first | (go_at_call 23; exact cA.out _ _)))
        refine wpQuiet_nil ?_
        intro _ hw'
        obtain ⟨⟨dq, osq⟩, hw''⟩ := hw'
        subst hw''
        have T3 := Lib.hid (T2.out.keep (below_regrown w2 dq osq))
        obtain ⟨w3, hw3⟩ : ∃ w3, w3 = grow (redrawn w2 dq) osq := ⟨_, rfl⟩
        rw [← hw3] at T3 ⊢
        clear hw3 cA k0 k1 k2 c0 c1 c2 d0 d1 d2 f0 f1 f2 x0 x1 x2 z2 hlt
        have hpL1 : p < (L).length := HPL.out
        obtain ⟨g', hge, _, hg2', hsl⟩ := Own.slot pgC_len T3.out.gr.own (by decide) hpL1
        injection hge with hge
        injection hge with hge
        subst hge
        obtain ⟨x', hx'⟩ : ∃ x', (L)[p] = x' := ⟨_, rfl⟩
        rw [hx'] at hsl
        have y0 := (hsl 0 (by decide)).2 _ rfl
        have y1 := (hsl 1 (by decide)).2 _ rfl
        have y2 := (hsl 2 (by decide)).2 _ rfl
        have z0 := (hsl 0 (by decide)).1
        have z1 := (hsl 1 (by decide)).1
        have z2 := (hsl 2 (by decide)).1
        rw [Nat.add_zero] at y0 z0
        have hgd' : (L).getD p dfl = x' := by rw [List.getD_eq_getElem?_getD, List.getElem?_eq_getElem hpL1, hx']; rfl
        have hxd := HSZ.out x' (hx' ▸ List.getElem_mem hpL1)
        have HC := Lib.hid (fun w => content_any x' w (by omega))
        unfold pgV at HC
        obtain ⟨ct, hct⟩ : ∃ ct, content x' = ct := ⟨_, rfl⟩
        rw [hct] at HC
        obtain ⟨⟨c0, c1, c2⟩, ⟨d0, d1, d2⟩, ⟨f0, f1, f2⟩, hlt⟩ := T3.out.facts
        have HF := Lib.hid (fun w' (h : Held w3 w') => And.intro (And.intro (h.cell c0) (And.intro (h.cell c1) (h.cell c2))) (And.intro (And.intro (h.cell y0) (And.intro (h.cell y1) (h.cell y2))) (And.intro ((Below.frozen h (p := ⟨g, p * 3, none⟩) hg2').trans z0) (And.intro ((Below.frozen h (p := ⟨g, p * 3 + 1, none⟩) hg2').trans z1) ((Below.frozen h (p := ⟨g, p * 3 + 2, none⟩) hg2').trans z2)))))
        have HTF := Lib.hid (fun w' (h : Held w3 w') => (T3.out.keep h).facts)
        have HFIN := Lib.hid (fun w' (h : Held w3 w') => (((T3.out.keep h).putAll hpL1 ⟨1, ct, false⟩).put (k := p) (i := 2) (by rw [List.length_set]; exact hpL1) (by decide) (.bool true) ⟨1, ct, true⟩ (by rw [List.getElem_set_self]; rfl)).fin)
        have HR2 : Hid (touch L lim hand p = ((L).set p ⟨1, ct, true⟩, hand, x.st)) := show _ = _ by
          rw [HR.out, HGD.out, HPT.out, HTC.out]
          show ((L).set p ⟨1, content ((L).getD p dfl), true⟩, hand, x.st) = _
          rw [hgd', hct]
        clear hsl hx' hgd' hct hxd d0 d1 d2 f0 f1 f2 hlt
        go_wp2
        go_region_with (first | (go_at_call 38; refine (HC.out _).mono ?_; rintro e w5 ⟨rfl, h5⟩; have H5 := Lib.hid ((Held.refl w3).drew.step h5); obtain ⟨⟨c0, c1, c2⟩, ⟨y0, y1, y2⟩, z0, z1, z2⟩ := HF.out _ H5.out; obtain ⟨_, ⟨d0, d1, d2⟩, ⟨f0, f1, f2⟩, hlt⟩ := HTF.out _ H5.out; clear h5))
        all_goals
          go_wp2
          have HFI := Lib.hid (HFIN.out _ H5.out)
          refine bodyPost_ret (Bx.res_ct Try.results21 rfl (GB.load HFI.out.1)) rfl ?_
          exact RetT.mk (by rw [HR2.out, List.set_set]) (by rw [List.length_set, List.length_set]) hcap HFI.out.2.1 HFI.out.2.2
end Pg
end Go.Proofs.Ytgfbfmgdlbdlhaa
