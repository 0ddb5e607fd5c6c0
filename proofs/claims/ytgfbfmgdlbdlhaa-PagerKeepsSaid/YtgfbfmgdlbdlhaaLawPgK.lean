/-
  The law PagerKeeps, walked.
-/
import Derived.Test.YtgfbfmgdlbdlhaaLawPgM
set_option linter.unusedVariables false
set_option linter.unusedSimpArgs false
set_option maxRecDepth 100000
namespace Go.Proofs.Ytgfbfmgdlbdlhaa
open Go.RowKit Go.BigFrame Go.Sort
namespace Pg
theorem write_to (A : Option Addr) (n cap : Nat) (lim hand pg : Int) (L : List Pg) (d : ByteArray) (w : World) (h : Sl 3 pgC w A n L) (hA : A = none → n = 0) (hn : (n : Int) ≤ 1000000) (hd : ∀ x ∈ L, (x.d.size : Int) ≤ 1000000)
    {L' : List Pg} {hand' : Int} {b : Bool} (hr : write L lim hand pg d = (L', hand', b)) (hl : L'.length = L.length) :
    Calls Try.prog 20 #[.agg #[.slice A n cap, .int .i64 lim, .int .i64 hand], .int .i64 pg, .string d] w (To lim hand' n L' [.bool b] w) := by
  rw [h.1] at hl
  refine (write_any A n cap lim hand pg L d w h hA hn hd).mono ?_
  rintro e w' ⟨A', cap', he, hc, ho, hh⟩
  rw [hr] at he hc ho
  simp only at hl he hc ho
  rw [hl] at he hc ho
  exact ⟨A', cap', he, hc, ho, hh⟩
/-- The pager of the law: in the box pb; want: the contents, in a row of the call's own. -/
def Kept (W : World) (pb : Nat) (lim : Int) (n : Nat) (A0 : Option Addr) (cap0 : Nat) (wr : World) : Prop := ∃ (L : List Pg) (hand : Int) (Ls : List ByteArray) (A : Option Addr) (cap : Nat), valid L lim hand = true ∧ conts L = Ls ∧ L.length = n ∧ n ≤ cap ∧ (∀ s ∈ Ls, s.size = 128) ∧
  Mem W wr [.box pb #[.slice A n cap, .int .i64 lim, .int .i64 hand] 32, .row 37 3 pgC W.heap.size (.slice A n cap) L, .row 9 1 stC W.heap.size (.slice A0 n cap0) Ls]
theorem slA {α : Type} {s : Nat} {f : α → List Value} {w : World} {A : Option Addr} {n : Nat} {L : List α} (h : Sl s f w A n L) : A = none → n = 0 := by
  rintro rfl
  rcases h.2 with h0 | ⟨b, off, e, _⟩
  · exact h0
  · cases e
theorem sl_new (w : World) (x : Int) (t : TypeId) : Sl 1 nuC (w.alloc (.cells #[.int .i64 x] t)) (some ⟨w.heap.size, 0, none⟩) 1 [x] := by
  refine ⟨rfl, .inr ⟨_, 0, rfl, by simp, fun k hk j v hv => ?_⟩⟩
  obtain rfl : k = 0 := by simpa using hk
  have := cells_new w rfl #[.int .i64 x] t j v hv
  rw [addr_add] at this
  simpa using this
set_option maxHeartbeats 16000000 in
theorem keeps_any (A1 : Option Addr) (n1 c1 : Nat) (U : List Int) (lim : Int) (A2 : Option Addr) (n2 c2 : Nat) (V : List Int) (w : World) (h1 : Sl 1 nuC w A1 n1 U) (h2 : Sl 1 nuC w A2 n2 V) (hn1 : (n1 : Int) ≤ 9223372036854775807) (hn2 : (n2 : Int) ≤ 9223372036854775807)
    (hU : ∀ x ∈ U, i64ok x) (hV : ∀ x ∈ V, i64ok x) :
    Calls Try.prog 8 #[.slice A1 n1 c1, .int .i64 lim, .slice A2 n2 c2] w fun e w' => e = .returned (.bool true) ∧ Held w w' := by
  have HAW := Lib.hid (fun w' => awake_any w')
  have HV := Lib.hid h2
  have HVB := Lib.hid hV
  have HPG := Lib.hid (fun hn => pages_any A1 n1 c1 U w h1 hn hU)
  clear h1 h2 hU hV
  by_cases g1 : (n1 : Int) < 1
  · go_enter Try.func8, Try.ntmps8
    go_wp2_with (go_at_call 9; refine (HAW.out _).mono ?_; rintro e w1 ⟨rfl, h1⟩)
    go_ret
    exact ⟨rfl, h1⟩
  by_cases g2 : (12 : Int) < n1
  · go_enter Try.func8, Try.ntmps8
    go_wp2_with (go_at_call 9; refine (HAW.out _).mono ?_; rintro e w1 ⟨rfl, h1⟩)
    go_ret
    exact ⟨rfl, h1⟩
  by_cases g3 : lim < 1
  · go_enter Try.func8, Try.ntmps8
    go_wp2_with (go_at_call 9; refine (HAW.out _).mono ?_; rintro e w1 ⟨rfl, h1⟩)
    go_ret
    exact ⟨rfl, h1⟩
  by_cases g4 : (n1 : Int) < lim
  · go_enter Try.func8, Try.ntmps8
    go_wp2_with (go_at_call 9; refine (HAW.out _).mono ?_; rintro e w1 ⟨rfl, h1⟩)
    go_ret
    exact ⟨rfl, h1⟩
  by_cases g5 : (60 : Int) < n2
  · go_enter Try.func8, Try.ntmps8
    go_wp2_with (go_at_call 9; refine (HAW.out _).mono ?_; rintro e w1 ⟨rfl, h1⟩)
    go_ret
    exact ⟨rfl, h1⟩
  go_enter Try.func8, Try.ntmps8
  go_wp2_with fail
  refine (HPG.out (by omega)).mono ?_
  rintro e w1 ⟨A0, cap0, Ls, rfl, hl, hall, ho1, hh1⟩
  have M1 := Lib.hid ((Mem.start w).own hh1 ho1)
  obtain ⟨q1, q2, q3⟩ := new_law (lim := lim) (L := Ls) (by omega) (by omega) hall
  have hnl := newL_len lim Ls
  rw [hl] at hnl
  have HN := Lib.hid (new_any A0 n1 cap0 lim Ls w1 (Own.reads stC_len (M1.out.row 0 rfl)).1 (by omega) (fun s hs => by rw [hall s hs]; omega))
  rw [q1] at HN
  obtain ⟨L, hL⟩ : ∃ L, newL lim Ls = L := ⟨_, rfl⟩
  rw [hL] at HN q2 q3 hnl
  have HQ := Lib.hid (And.intro q2 (And.intro q3 (And.intro hnl hall)))
  clear ho1 hh1 q1 q2 q3 hnl hl hall hL HPG
  go_wp2_with fail
  refine HN.out.mono ?_
  rintro e w2 ⟨A3, cap3, rfl, hc3, ho3, hh3⟩
  simp only at hc3 ho3
  rw [HQ.out.2.2.1] at hc3 ho3
  have M2 := Lib.hid ((M1.out.own hh3 ho3).alloc #[.slice A3 n1 cap3, .int .i64 lim, .int .i64 0] 32)
  have hnl := HQ.out.2.2.1
  simp only [hnl]
  clear ho3 hh3 hnl HN M1
  unfold grV
  go_wp2
  have hK : Hid (Kept w w2.heap.size lim n1 A0 cap0 (w2.alloc (.cells #[.slice A3 n1 cap3, .int .i64 lim, .int .i64 0] 32))) :=
    ⟨L, 0, Ls, A3, cap3, HQ.out.1, HQ.out.2.1, HQ.out.2.2.1, hc3, HQ.out.2.2.2, M2.out.pick [2, 1, 0] (by decide) rfl⟩
  obtain ⟨pb, hpb⟩ : ∃ pb, w2.heap.size = pb := ⟨_, rfl⟩
  rw [hpb] at hK ⊢
  clear hpb M2 HQ
  go_loopw [10] (fun i wr => ∃ k : Nat, i = .int .i64 k ∧ k ≤ n2 ∧ Kept w pb lim n1 A0 cap0 wr) (fun i _ => n2 - (intOf i).toNat)
  case atStart => exact ⟨0, rfl, Nat.zero_le _, hK.out⟩
  case round =>
    obtain ⟨k, rfl, hk, L, hand, Ls, A, cap, hv, hcs, hlen, hcap, hall, M⟩ := hrel
    have M1 := Lib.hid M
    have HQ := Lib.hid (And.intro hv (And.intro hcs (And.intro hlen hall)))
    obtain ⟨⟨p0, p1, p2⟩, ⟨pf0, pf1, pf2⟩, plt⟩ := M.box3 0 rfl
    clear hv hcs hlen hall M hK
    by_cases hlt : (k : Int) < n2
    · obtain ⟨b, off, x, rfl, hbw, hx, hc⟩ := HV.out.at_ M1.out.held (k := k) (by omega)
      have c0 := hc 0 _ rfl
      rw [Nat.add_zero, Nat.mul_one] at c0
      have hxb := HVB.out x (List.mem_of_getElem? hx)
      have hn0 : (n1 : Int) ≤ 12 := by omega
      have HR := Lib.hid (fun w' => Mk.round_any x n1 hxb.1 hxb.2 (by omega) (by omega) w')
      have hrb := Mk.round_bd x n1 (by omega)
      have hwb : -9223372036854775808 ≤ wrap64 (x.tdiv 12) ∧ wrap64 (x.tdiv 12) ≤ 9223372036854775807 := by unfold wrap64; omega
      have HR2 := Lib.hid (fun w' => Mk.round_any (wrap64 (x.tdiv 12)) 3 hwb.1 hwb.2 (by decide) (by decide) w')
      obtain ⟨r2, hr2⟩ : ∃ r, Mk.round (wrap64 (x.tdiv 12)) 3 = r := ⟨_, rfl⟩
      rw [hr2] at HR2
      have HPX := Lib.hid (fun w' b (h : Sl 1 nuC w' (some ⟨b, 0, none⟩) 1 [x]) => pages_any (some ⟨b, 0, none⟩) 1 1 [x] w' h (by decide) (by intro y hy; rw [List.mem_singleton.1 hy]; exact hxb))
      have HC0 := Lib.hid c0
      clear hr2 hwb
      obtain ⟨r, hr⟩ : ∃ r, Mk.round x n1 = r := ⟨_, rfl⟩
      rw [hr] at HR hrb
      obtain ⟨p, rfl⟩ := Int.eq_ofNat_of_zero_le hrb.1
      have hpn : p < n1 := by omega
      clear hc hx hr
      go_wp2_with fail
      refine (HR.out _).mono ?_
      rintro e w3 ⟨rfl, rfl⟩
      go_wp2_with fail
      refine (HR2.out _).mono ?_
      rintro e w3 ⟨rfl, rfl⟩
      have n1p : ¬ pb = wr.heap.size := by omega
      by_cases h0 : r2 = 0
      · have h0b : (r2 == 0) = true := by simp [h0]
        clear h0 HR2 HR
        go_wp2_with fail
        refine (HPX.out _ wr.heap.size (sl_new wr _ _)).mono ?_
        rintro e w3 ⟨A4, cap4, Ln, rfl, hl4, ha4, ho4, hh4⟩
        have M2 := Lib.hid ((M1.out.skip _).own hh4 ho4)
        obtain ⟨g4, d, rfl, _, _, hd0, hs4⟩ := M2.out.slot 3 rfl stC_len (by decide) (k := 0) (by rw [hl4]; decide)
        have d0 := (hs4 0 (by decide)).2 _ rfl
        rw [Nat.add_zero, Nat.zero_mul] at d0
        have hdz := ha4 d (List.mem_of_getElem? hd0)
        obtain ⟨gw, s, rfl, _, _, hs0, hsw⟩ := M2.out.slot 2 rfl stC_len (by decide) (k := p) (by have := conts_len HQ.out.2.1; rw [this, HQ.out.2.2.1]; exact hpn)
        obtain ⟨wz0, wc⟩ := hsw 0 (by decide)
        have w0 := wc _ rfl
        rw [Nat.add_zero, Nat.mul_one] at w0 wz0
        have M3 := Lib.hid (M2.out.putAt 2 rfl stC_len hs0 (j := 0) (by decide) (.string d) d rfl)
        rw [Nat.add_zero, Nat.mul_one] at M3
        obtain ⟨L', hand', hw1, hw2, hw3, hw4, hw5⟩ := write_law HQ.out.1 HQ.out.2.1 (p := p) (by rw [HQ.out.2.2.1]; exact hpn) hdz
        have hsl := (Own.reads pgC_len (M3.out.row 1 rfl)).1
        have HW := Lib.hid (fun w' (q : Held (w3.setCell ⟨gw, p, none⟩ (.string d)) w') => write_to A n1 cap lim hand p L d w' (hsl.held q) (slA hsl) (by omega) (valid_small HQ.out.1) hw1 (hw4.trans rfl))
        have HQ2 := Lib.hid (And.intro hw2 (And.intro hw3 (And.intro hw4 hw5)))
        have HDZ := Lib.hid hdz
        clear hw1 hw2 hw3 hw4 hw5 hsl hs0 hd0 hs4 hsw wc hdz hl4 ha4 ho4 hh4 p0 p1 p2 pf0 pf1 pf2 plt
        obtain ⟨⟨p0, p1, p2⟩, ⟨pf0, pf1, pf2⟩, plt⟩ := M3.out.box3 0 rfl
        have v0 : (w3.setCell ⟨gw, p, none⟩ (.string d)).cell? ⟨gw, p, none⟩ = some (.string d) := by
          obtain ⟨g', s', e', _, _, hs', hc'⟩ := M3.out.slot 2 rfl stC_len (by decide) (k := p) (by rw [List.length_set, conts_len HQ.out.2.1, HQ.out.2.2.1]; exact hpn)
          injection e' with e'
          injection e' with e'
          subst e'
          rw [List.getElem?_set_self (by rw [conts_len HQ.out.2.1, HQ.out.2.2.1]; exact hpn)] at hs'
          injection hs' with hs'
          subst hs'
          have := (hc' 0 (by decide)).2 _ rfl
          rw [Nat.add_zero, Nat.mul_one] at this
          exact this
        go_wp2
        clear c0 w0 d0
        obtain ⟨wq, hwq⟩ : ∃ wq, w3.setCell ⟨gw, p, none⟩ (.string d) = wq := ⟨_, rfl⟩
        rw [hwq] at M3 HW p0 p1 p2 pf0 pf1 pf2 plt v0 ⊢
        have s1 : (0 : Int) ≤ p := by omega
        have s2 : (p : Int) < n1 := by omega
        clear hwq M2 HPX
        have HZ := Lib.hid (M3.out.alloc #[.slice none 0 0, .int .i64 0, .int .i64 0] 32)
        have n2p : ¬ pb = wq.heap.size := by omega
        have ltg : gw < wq.heap.size := lt_of_cell v0
        have n2g : ¬ gw = wq.heap.size := by omega
        go_cut [12, 13] from 55 to 141 (fun tp bo wx => bo = .bool true ∧ ∃ tb A5 cap5, tp = .pointer (some ⟨tb, 0, none⟩) ∧ n1 ≤ cap5 ∧ Mem w wx [.box pb #[.slice A n1 cap, .int .i64 lim, .int .i64 hand] 32, .row 37 3 pgC w.heap.size (.slice A5 n1 cap5) L', .row 9 1 stC w.heap.size (.slice (some ⟨gw, 0, none⟩) n1 cap0) (Ls.set p d), .box tb #[.slice A5 n1 cap5, .int .i64 lim, .int .i64 hand'] 32])
        case first =>
          go_region_with (first | (go_at_call 20; refine (HW.out _ (Held.refl wq).drew).mono ?_; rintro e w5 ⟨A5, cap5, rfl, hc5, ho5, h5⟩; have M4 := Lib.hid (((M3.out.drew.own h5 ho5).alloc #[.slice A5 n1 cap5, .int .i64 lim, .int .i64 hand'] 32).sel [0, 4, 2, 5] (by decide)); clear ho5 h5) | (go_at_call 20; refine (HW.out _ ((Held.refl wq).alloc (.cells #[.slice none 0 0, .int .i64 0, .int .i64 0] 32)).drew).mono ?_; rintro e w5 ⟨A5, cap5, rfl, hc5, ho5, h5⟩; have M5 := Lib.hid (HZ.out.drew.own h5 ho5); obtain ⟨⟨t0, t1, t2⟩, ⟨tf0, tf1, tf2⟩, tlt⟩ := M5.out.box3 4 rfl; have M4 := Lib.hid ((((M5.out.put 4 rfl 0 (.slice A5 n1 cap5)).put 4 rfl 1 (.int .i64 lim)).put 4 rfl 2 (.int .i64 hand')).sel [0, 5, 2, 4] (by decide)); clear ho5 h5 M5))
          all_goals
            go_wp2
            go_meet
            case rel => exact ⟨rfl, _, _, _, rfl, hc5, M4.out⟩
        case rest =>
          obtain ⟨rfl, tb, A5, cap5, rfl, hc5, M5⟩ := hcut
          have M4 := Lib.hid M5
          clear M5 HW HZ p0 p1 p2 pf0 pf1 pf2 plt v0 wz0 M3 n2p n2g ltg
          obtain ⟨⟨p0, p1, p2⟩, ⟨pf0, pf1, pf2⟩, plt⟩ := M4.out.box3 0 rfl
          obtain ⟨⟨q0, q1, q2⟩, _, _⟩ := M4.out.box3 3 rfl
          have ntb := M4.out.ne 0 3 rfl rfl (by decide)
          have M6 := Lib.hid (((M4.out.put 0 rfl 0 (.slice A5 n1 cap5)).put 0 rfl 1 (.int .i64 lim)).put 0 rfl 2 (.int .i64 hand'))
          have HALL : Hid (∀ s ∈ Ls.set p d, s.size = 128) := fun s hs => by
            rcases List.mem_or_eq_of_mem_set hs with h | rfl
            · exact HQ.out.2.2.2 s h
            · exact HDZ.out
          go_wp2_with fail
          obtain ⟨w6, hw6⟩ : ∃ w6, ((wc.setCell ⟨pb, 0, none⟩ (.slice A5 n1 cap5)).setCell ⟨pb, 1, none⟩ (.int .i64 lim)).setCell ⟨pb, 2, none⟩ (.int .i64 hand') = w6 := ⟨_, rfl⟩
          rw [hw6] at M6 ⊢
          have M5 := Lib.hid M6.out
          clear hw6 M4 M6 p0 p1 p2 pf0 pf1 pf2 plt q0 q1 q2 ntb
          have hsl5 := (Own.reads pgC_len (M5.out.row 1 rfl)).1
          have HCN := Lib.hid (fun w' (q : Held w6 w') => count_any A5 n1 cap5 lim hand' 1 L' w' (hsl5.held q) (by omega))
          have HVA := Lib.hid (fun w' (q : Held w6 w') => valid_any A5 n1 cap5 lim hand' L' w' (hsl5.held q) (by omega) (valid_small HQ2.out.1))
          rw [HQ2.out.1] at HVA
          have hcl := (valid_bd HQ2.out.1).2.2.2.2
          obtain ⟨cn, hcn⟩ : ∃ cn, count 1 L' = cn := ⟨_, rfl⟩
          rw [hcn] at HCN hcl
          unfold grV at HCN HVA
          obtain ⟨g5, y, rfl, _, _, hy, hsy⟩ := M5.out.slot 1 rfl pgC_len (by decide) (k := p) (by rw [HQ2.out.2.2.1, HQ.out.2.2.1]; exact hpn)
          have hy1 : y.st = 1 := by
            obtain ⟨h5, h6⟩ := HQ2.out.2.2.2
            rw [List.getElem?_eq_getElem h5] at hy
            injection hy with hy
            rw [← hy]; exact h6
          have y0 := (hsy 0 (by decide)).2 _ rfl
          rw [hy1, Nat.add_zero] at y0
          have HB3 := Lib.hid (fun w' (q : Held w6 w') => ((M5.out.keep q).box3 0 rfl).1)
          have HY0 := Lib.hid (fun w' (q : Held w6 w') => q.cell y0)
          clear hy hsy hy1 hcn hsl5
          go_wp2_with fail
          refine (HCN.out _ (Held.refl _)).mono ?_
          rintro e w7 ⟨rfl, h7⟩
          have H7 := Lib.hid h7
          obtain ⟨b0, b1, b2⟩ := HB3.out _ h7
          have y1 := HY0.out _ h7
          clear h7
          go_wp2_with fail
          refine (HVA.out _ H7.out).mono ?_
          rintro e w8 ⟨rfl, h8⟩
          have M8 := Lib.hid (M5.out.keep (H7.out.step h8))
          clear h8
          go_wp2
          go_roundw
          case rel => exact ⟨k + 1, by go_num, by omega, L', hand', _, _, cap5, HQ2.out.1, HQ2.out.2.1, HQ2.out.2.2.1.trans HQ.out.2.2.1, hc5, HALL.out, M8.out.pick [0, 1, 2] (by decide) rfl⟩
          case measure => (simp [intOf]) <;> omega
      · have h0b : (r2 == 0) = false := by simp [h0]
        clear h0 HR2 HR HPX
        obtain ⟨gw, s, rfl, _, _, hs0, hsw⟩ := M1.out.slot 2 rfl stC_len (by decide) (k := p) (by have := conts_len HQ.out.2.1; rw [this, HQ.out.2.2.1]; exact hpn)
        have w0 := (hsw 0 (by decide)).2 _ rfl
        rw [Nat.add_zero, Nat.mul_one] at w0
        obtain ⟨L', hand', st, ht1, ht2, ht3, ht4, ht5, ht6, ht7⟩ := read_law HQ.out.1 HQ.out.2.1 (p := p) (by rw [HQ.out.2.2.1]; exact hpn)
        rw [List.getD_eq_getElem?_getD, hs0] at ht7
        have hsl := (Own.reads pgC_len (M1.out.row 1 rfl)).1
        have HRD := Lib.hid (fun w' (q : Held wr w') => read_to A n1 cap lim hand p L w' (hsl.held q) (slA hsl) (by omega) (valid_small HQ.out.1) ht1 ht7)
        rw [show decide (¬ st = 0) = true by simpa using ht2] at HRD
        have HQ2 := Lib.hid (And.intro ht3 (And.intro ht4 (And.intro ht5 ht6)))
        have HW0 := Lib.hid (fun w' (q : Held wr w') => q.cell w0)
        clear ht1 ht2 ht3 ht4 ht5 ht6 ht7 hsl hs0 hsw w0
        simp only [Option.getD_some] at HRD
        go_wp2_with fail
        refine (HRD.out _ (Held.refl _)).mono ?_
        rintro e w5 ⟨A5, cap5, rfl, hc5, ho5, h5⟩
        have M4 := Lib.hid ((M1.out.own h5 ho5).alloc #[.slice A5 n1 cap5, .int .i64 lim, .int .i64 hand'] 32)
        have w0 := HW0.out _ h5
        have lgw := lt_of_cell w0
        clear ho5 h5 HRD HW0 p0 p1 p2 pf0 pf1 pf2 plt
        obtain ⟨⟨p0, p1, p2⟩, ⟨pf0, pf1, pf2⟩, plt⟩ := M4.out.box3 0 rfl
        have ntb : pb ≠ w5.heap.size := M4.out.ne 0 4 rfl rfl (by decide)
        have ntg : ¬ gw = w5.heap.size := by simp at lgw; omega
        have p0' := p0
        have M6 := Lib.hid ((((M4.out.put 0 rfl 0 (.slice A5 n1 cap5)).put 0 rfl 1 (.int .i64 lim)).put 0 rfl 2 (.int .i64 hand')).sel [0, 3, 2] (by decide))
        have hq0 : (s.toList == s.toList) = true := by simp
        have hq1 : (s.toList != s.toList) = false := by simp
        go_wp2_with fail
        obtain ⟨w6, hw6⟩ : ∃ w6, (((w5.alloc (.cells #[.slice A5 n1 cap5, .int .i64 lim, .int .i64 hand'] 32)).setCell ⟨pb, 0, none⟩ (.slice A5 n1 cap5)).setCell ⟨pb, 1, none⟩ (.int .i64 lim)).setCell ⟨pb, 2, none⟩ (.int .i64 hand') = w6 := ⟨_, rfl⟩
        rw [hw6] at M6 ⊢
        have M5 := Lib.hid M6.out
        clear hw6 M4 M6 p0 p0' p1 p2 pf0 pf1 pf2 plt ntb ntg lgw w0
        have hsl5 := (Own.reads pgC_len (M5.out.row 1 rfl)).1
        have HCN := Lib.hid (fun w' (q : Held w6 w') => count_any A5 n1 cap5 lim hand' 1 L' w' (hsl5.held q) (by omega))
        have HVA := Lib.hid (fun w' (q : Held w6 w') => valid_any A5 n1 cap5 lim hand' L' w' (hsl5.held q) (by omega) (valid_small HQ2.out.1))
        rw [HQ2.out.1] at HVA
        have hcl := (valid_bd HQ2.out.1).2.2.2.2
        obtain ⟨cn, hcn⟩ : ∃ cn, count 1 L' = cn := ⟨_, rfl⟩
        rw [hcn] at HCN hcl
        unfold grV at HCN HVA
        obtain ⟨g5, y, rfl, _, _, hy, hsy⟩ := M5.out.slot 1 rfl pgC_len (by decide) (k := p) (by rw [HQ2.out.2.2.1, HQ.out.2.2.1]; exact hpn)
        have hy1 : y.st = 1 := by
          obtain ⟨h5, h6⟩ := HQ2.out.2.2.2
          rw [List.getElem?_eq_getElem h5] at hy
          injection hy with hy
          rw [← hy]; exact h6
        have y0 := (hsy 0 (by decide)).2 _ rfl
        rw [hy1, Nat.add_zero] at y0
        have HB3 := Lib.hid (fun w' (q : Held w6 w') => ((M5.out.keep q).box3 0 rfl).1)
        have HY0 := Lib.hid (fun w' (q : Held w6 w') => q.cell y0)
        clear hy hsy hy1 hcn hsl5
        refine (HCN.out _ (Held.refl _)).mono ?_
        rintro e w7 ⟨rfl, h7⟩
        have H7 := Lib.hid h7
        obtain ⟨b0, b1, b2⟩ := HB3.out _ h7
        have y1 := HY0.out _ h7
        clear h7
        go_wp2_with fail
        refine (HVA.out _ H7.out).mono ?_
        rintro e w8 ⟨rfl, h8⟩
        have M8 := Lib.hid (M5.out.keep (H7.out.step h8))
        clear h8
        go_wp2
        go_roundw
        case rel => exact ⟨k + 1, by go_num, by omega, L', hand', _, _, cap5, HQ2.out.1, HQ2.out.2.1, HQ2.out.2.2.1.trans HQ.out.2.2.1, hc5, HQ.out.2.2.2, M8.out.pick [0, 1, 2] (by decide) rfl⟩
        case measure => (simp [intOf]) <;> omega
    · obtain rfl : k = n2 := by omega
      have hK : Hid (Kept w pb lim n1 A0 cap0 wr) := ⟨L, hand, Ls, A, cap, HQ.out.1, HQ.out.2.1, HQ.out.2.2.1, hcap, HQ.out.2.2.2, M1.out⟩
      clear M1 HQ hcap p0 p1 p2 pf0 pf1 pf2 plt
      go_wp2
      go_loopw [17] (fun i wr => ∃ k : Nat, i = .int .i64 k ∧ k ≤ n1 ∧ Kept w pb lim n1 A0 cap0 wr) (fun i _ => n1 - (intOf i).toNat)
      case atStart => exact ⟨0, rfl, Nat.zero_le _, hK.out⟩
      case round =>
        obtain ⟨p, rfl, hp, L, hand, Ls, A, cap, hv, hcs, hlen, hcap, hall, M⟩ := hrel
        have M1 := Lib.hid M
        have HQ := Lib.hid (And.intro hv (And.intro hcs (And.intro hlen hall)))
        obtain ⟨⟨p0, p1, p2⟩, ⟨pf0, pf1, pf2⟩, plt⟩ := M.box3 0 rfl
        clear hv hcs hlen hall M hK
        by_cases hlt : (p : Int) < n1
        · have hpn : p < n1 := by omega
          obtain ⟨gw, s, rfl, _, _, hs0, hsw⟩ := M1.out.slot 2 rfl stC_len (by decide) (k := p) (by have := conts_len HQ.out.2.1; rw [this, HQ.out.2.2.1]; exact hpn)
          have w0 := (hsw 0 (by decide)).2 _ rfl
          rw [Nat.add_zero, Nat.mul_one] at w0
          obtain ⟨L', hand', st, ht1, ht2, ht3, ht4, ht5, ht6, ht7⟩ := read_law HQ.out.1 HQ.out.2.1 (p := p) (by rw [HQ.out.2.2.1]; exact hpn)
          rw [List.getD_eq_getElem?_getD, hs0] at ht7
          have hsl := (Own.reads pgC_len (M1.out.row 1 rfl)).1
          have HRD := Lib.hid (fun w' (q : Held wr w') => read_to A n1 cap lim hand p L w' (hsl.held q) (slA hsl) (by omega) (valid_small HQ.out.1) ht1 ht7)
          rw [show decide (¬ st = 0) = true by simpa using ht2] at HRD
          have HQ2 := Lib.hid (And.intro ht3 (And.intro ht4 (And.intro ht5 ht6)))
          have HW0 := Lib.hid (fun w' (q : Held wr w') => q.cell w0)
          clear ht1 ht2 ht3 ht4 ht5 ht6 ht7 hsl hs0 hsw w0
          simp only [Option.getD_some] at HRD
          go_wp2_with fail
          refine (HRD.out _ (Held.refl _)).mono ?_
          rintro e w5 ⟨A5, cap5, rfl, hc5, ho5, h5⟩
          have M4 := Lib.hid ((M1.out.own h5 ho5).alloc #[.slice A5 n1 cap5, .int .i64 lim, .int .i64 hand'] 32)
          have w0 := HW0.out _ h5
          have lgw := lt_of_cell w0
          clear ho5 h5 HRD HW0 p0 p1 p2 pf0 pf1 pf2 plt
          obtain ⟨⟨p0, p1, p2⟩, ⟨pf0, pf1, pf2⟩, plt⟩ := M4.out.box3 0 rfl
          have ntb : pb ≠ w5.heap.size := M4.out.ne 0 4 rfl rfl (by decide)
          have ntg : ¬ gw = w5.heap.size := by simp at lgw; omega
          have p0' := p0
          have M6 := Lib.hid ((((M4.out.put 0 rfl 0 (.slice A5 n1 cap5)).put 0 rfl 1 (.int .i64 lim)).put 0 rfl 2 (.int .i64 hand')).sel [0, 3, 2] (by decide))
          have hq0 : (s.toList == s.toList) = true := by simp
          have hq1 : (s.toList != s.toList) = false := by simp
          go_wp2
          obtain ⟨w6, hw6⟩ : ∃ w6, (((w5.alloc (.cells #[.slice A5 n1 cap5, .int .i64 lim, .int .i64 hand'] 32)).setCell ⟨pb, 0, none⟩ (.slice A5 n1 cap5)).setCell ⟨pb, 1, none⟩ (.int .i64 lim)).setCell ⟨pb, 2, none⟩ (.int .i64 hand') = w6 := ⟨_, rfl⟩
          rw [hw6] at M6 ⊢
          go_roundw
          case rel => exact ⟨p + 1, by go_num, by omega, L', hand', _, _, cap5, HQ2.out.1, HQ2.out.2.1, HQ2.out.2.2.1.trans HQ.out.2.2.1, hc5, HQ.out.2.2.2, M6.out⟩
          case measure => (simp [intOf]) <;> omega
        · obtain rfl : p = n1 := by omega
          go_wp2_with (go_at_call 9; refine (HAW.out _).mono ?_; rintro e w2 ⟨rfl, h2⟩; have M3 := Lib.hid (M1.out.keep h2); clear h2)
          go_ret
          exact ⟨rfl, M3.out.held⟩
theorem nums_of {o : Option Addr} {len cap : Nat} {z : List Int} {W : World} (h : Rw.IsRow .i64 W o len cap z) : ∃ L, Sl 1 nuC W o len L ∧ (len : Int) ≤ 9223372036854775807 ∧ ∀ x ∈ L, i64ok x := by
  obtain ⟨L, hL, hmax, hwf, hcell⟩ := h.view
  refine ⟨L, ⟨hL, hcell.imp id ?_⟩, by unfold maxLen at hmax; omega, fun x hx => Rw.bd_i64 (hwf x hx)⟩
  rintro ⟨b, off, e, hb, hc⟩
  refine ⟨b, off, e, hb, fun k hk j v hv => ?_⟩
  rcases j with _ | j
  · simp only [nuC, List.getElem?_cons_zero, Option.some.injEq] at hv
    subst hv
    have := hc k hk
    simpa using this
  · simp [nuC] at hv
theorem keeps (o1 : Option Addr) (len1 cap1 : Nat) (z1 : List Int) (lim : Int) (o2 : Option Addr) (len2 cap2 : Nat) (z2 : List Int) (hl : (Lit.int .i64 lim).wf = true) (W : World) (h1 : Rw.IsRow .i64 W o1 len1 cap1 z1) (h2 : Rw.IsRow .i64 W o2 len2 cap2 z2) :
    Calls Try.prog 8 #[.slice o1 len1 cap1, .int .i64 lim, .slice o2 len2 cap2] W fun e w' => e = .returned (.bool true) ∧ Below W.heap.size W w' := by
  obtain ⟨U, u1, u2, u3⟩ := nums_of h1
  obtain ⟨V, v1, v2, v3⟩ := nums_of h2
  exact keeps_any o1 len1 cap1 U lim o2 len2 cap2 V W u1 v1 u2 v2 u3 v3
end Pg
end Go.Proofs.Ytgfbfmgdlbdlhaa
