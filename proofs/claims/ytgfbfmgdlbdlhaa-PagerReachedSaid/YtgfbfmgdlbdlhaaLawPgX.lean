/-
  The law PagerReached, walked.
-/
import Derived.Test.YtgfbfmgdlbdlhaaLawPgT
set_option linter.unusedVariables false
set_option linter.unusedSimpArgs false
set_option maxRecDepth 100000
namespace Go.Proofs.Ytgfbfmgdlbdlhaa
open Go.RowKit Go.BigFrame Go.Sort
namespace Pg
/-- The pager of the law: in the box pb. -/
def Kept2 (W : World) (pb : Nat) (lim : Int) (n : Nat) (wr : World) : Prop := ∃ (L : List Pg) (hand : Int) (A : Option Addr) (cap : Nat), valid L lim hand = true ∧ L.length = n ∧ n ≤ cap ∧
  Mem W wr [.box pb #[.slice A n cap, .int .i64 lim, .int .i64 hand] 32, .row 37 3 pgC W.heap.size (.slice A n cap) L]
theorem valid_tiny {L : List Pg} {lim hand : Int} (hv : valid L lim hand = true) : ∀ x ∈ L, (x.d.size : Int) ≤ 300 := by
  intro x hx
  obtain ⟨i, hi, rfl⟩ := List.mem_iff_getElem.1 hx
  have h := valid_all hv i hi
  unfold okP at h
  split at h
  · simp at h; omega
  · split at h
    · unfold okZ at h
      split at h
      · cases h
      · rename_i hn; simp at hn; omega
    · split at h
      · unfold okS at h; simp at h; omega
      · cases h
set_option maxHeartbeats 16000000 in
theorem reached_any (A1 : Option Addr) (n1 c1 : Nat) (U : List Int) (lim : Int) (A2 : Option Addr) (n2 c2 : Nat) (V : List Int) (page num : Int) (w : World) (h1 : Sl 1 nuC w A1 n1 U) (h2 : Sl 1 nuC w A2 n2 V) (hn1 : (n1 : Int) ≤ 9223372036854775807) (hn2 : (n2 : Int) ≤ 9223372036854775807)
    (hU : ∀ x ∈ U, i64ok x) (hV : ∀ x ∈ V, i64ok x) (hpg : i64ok page) (hnum : i64ok num) :
    Calls Try.prog 7 #[.slice A1 n1 c1, .int .i64 lim, .slice A2 n2 c2, .int .i64 page, .int .i64 num] w fun e w' => e = .returned (.bool true) ∧ Held w w' := by
  have HAW := Lib.hid (fun w' => awake_any w')
  have HV := Lib.hid h2
  have HVB := Lib.hid hV
  have HPG := Lib.hid (fun hn => pages_any A1 n1 c1 U w h1 hn hU)
  clear h1 h2 hU hV
  by_cases g1 : (n1 : Int) < 1
  · go_enter Try.func7, Try.ntmps7
    go_wp2_with (go_at_call 9; refine (HAW.out _).mono ?_; rintro e w1 ⟨rfl, h1⟩)
    go_ret
    exact ⟨rfl, h1⟩
  by_cases g2 : (12 : Int) < n1
  · go_enter Try.func7, Try.ntmps7
    go_wp2_with (go_at_call 9; refine (HAW.out _).mono ?_; rintro e w1 ⟨rfl, h1⟩)
    go_ret
    exact ⟨rfl, h1⟩
  by_cases g3 : lim < 1
  · go_enter Try.func7, Try.ntmps7
    go_wp2_with (go_at_call 9; refine (HAW.out _).mono ?_; rintro e w1 ⟨rfl, h1⟩)
    go_ret
    exact ⟨rfl, h1⟩
  by_cases g4 : (n1 : Int) < lim
  · go_enter Try.func7, Try.ntmps7
    go_wp2_with (go_at_call 9; refine (HAW.out _).mono ?_; rintro e w1 ⟨rfl, h1⟩)
    go_ret
    exact ⟨rfl, h1⟩
  by_cases g5 : (30 : Int) < n2
  · go_enter Try.func7, Try.ntmps7
    go_wp2_with (go_at_call 9; refine (HAW.out _).mono ?_; rintro e w1 ⟨rfl, h1⟩)
    go_ret
    exact ⟨rfl, h1⟩
  go_enter Try.func7, Try.ntmps7
  go_wp2_with fail
  refine (HPG.out (by omega)).mono ?_
  rintro e w1 ⟨A0, cap0, Ls, rfl, hl, hall, ho1, hh1⟩
  have M1 := Lib.hid ((Mem.start w).own hh1 ho1)
  obtain ⟨q1, q2, q3⟩ := new_law (lim := lim) (L := Ls) (by omega) (by omega) hall
  have hnl := newL_len lim Ls
  rw [hl] at hnl
  have HN := Lib.hid (new_any A0 n1 cap0 lim Ls w1 (Own.reads stC_len (M1.out.row 0 rfl)).1 (by omega) (fun s hs => by rw [hall s hs]; omega))
  rw [q1] at HN
  obtain ⟨L, hL⟩ : ∃ L, newL lim Ls = L := ⟨_, rfl⟩
  rw [hL] at HN q2 q3 hnl
  have HQ := Lib.hid (And.intro q2 hnl)
  clear ho1 hh1 q1 q2 q3 hnl hl hall hL HPG
  go_wp2_with fail
  refine HN.out.mono ?_
  rintro e w2 ⟨A3, cap3, rfl, hc3, ho3, hh3⟩
  simp only at hc3 ho3
  rw [HQ.out.2] at hc3 ho3
  have M2 := Lib.hid ((M1.out.own hh3 ho3).alloc #[.slice A3 n1 cap3, .int .i64 lim, .int .i64 0] 32)
  have hnl := HQ.out.2
  simp only [hnl]
  clear ho3 hh3 hnl HN M1
  unfold grV
  go_wp2
  have hK : Hid (Kept2 w w2.heap.size lim n1 (w2.alloc (.cells #[.slice A3 n1 cap3, .int .i64 lim, .int .i64 0] 32))) :=
    ⟨L, 0, A3, cap3, HQ.out.1, HQ.out.2, hc3, M2.out.pick [2, 1] (by decide) rfl⟩
  obtain ⟨pb, hpb⟩ : ∃ pb, w2.heap.size = pb := ⟨_, rfl⟩
  rw [hpb] at hK ⊢
  clear hpb M2 HQ
  go_loopw [13] (fun i wr => ∃ k : Nat, i = .int .i64 k ∧ k ≤ n2 ∧ Kept2 w pb lim n1 wr) (fun i _ => n2 - (intOf i).toNat)
  case atStart => exact ⟨0, rfl, Nat.zero_le _, hK.out⟩
  case round =>
    obtain ⟨k, rfl, hk, L, hand, A, cap, hv, hlen, hcap, M⟩ := hrel
    have M1 := Lib.hid M
    have HQ := Lib.hid (And.intro hv hlen)
    obtain ⟨⟨p0, p1, p2⟩, ⟨pf0, pf1, pf2⟩, plt⟩ := M.box3 0 rfl
    have hsl := (Own.reads pgC_len (M.row 1 rfl)).1
    clear M hK
    by_cases hlt : (k : Int) < n2
    · obtain ⟨b, off, x, rfl, hbw, hx, hc⟩ := HV.out.at_ M1.out.held (k := k) (by omega)
      have c0 := hc 0 _ rfl
      rw [Nat.add_zero, Nat.mul_one] at c0
      have hxb := HVB.out x (List.mem_of_getElem? hx)
      have HR := Lib.hid (fun w' => Mk.round_any x n1 hxb.1 hxb.2 (by omega) (by omega) w')
      have hrb := Mk.round_bd x n1 (by omega)
      have hwb : -9223372036854775808 ≤ wrap64 (x.tdiv 12) ∧ wrap64 (x.tdiv 12) ≤ 9223372036854775807 := by unfold wrap64; omega
      have HR2 := Lib.hid (fun w' => Mk.round_any (wrap64 (x.tdiv 12)) 3 hwb.1 hwb.2 (by decide) (by decide) w')
      obtain ⟨r2, hr2⟩ : ∃ r, Mk.round (wrap64 (x.tdiv 12)) 3 = r := ⟨_, rfl⟩
      rw [hr2] at HR2
      have HDI := Lib.hid (fun w' => Plan.disperse_any x w')
      clear hr2 hwb
      obtain ⟨r, hr⟩ : ∃ r, Mk.round x n1 = r := ⟨_, rfl⟩
      rw [hr] at HR hrb
      obtain ⟨p, rfl⟩ := Int.eq_ofNat_of_zero_le hrb.1
      have hpn : p < n1 := by omega
      have HWL := Lib.hid (fun (d : ByteArray) (hd : d.size = 128) => write_law hv (C := conts L) rfl (p := p) (by rw [hlen]; exact hpn) hd)
      obtain ⟨L', hand', st, ht1, ht2, ht3, ht4, ht5, ht6, ht7⟩ := read_law hv (C := conts L) rfl (p := p) (by rw [hlen]; exact hpn)
      have HT := Lib.hid (fun w' (q : Held wr w') => touch_to A n1 cap lim hand p L w' (hsl.held q) (slA' hsl) (by omega) (valid_small hv) ht1)
      have HSL := Lib.hid (And.intro hsl hv)
      have HW := Lib.hid (fun (d : ByteArray) w' (q : Held wr w') (L2 : List Pg) (h2 : Int) (b2 : Bool) (hr : write L lim hand p d = (L2, h2, b2)) (hl : L2.length = L.length) => write_to A n1 cap lim hand p L d w' (HSL.out.1.held q) (slA' HSL.out.1) (by omega) (valid_small HSL.out.2) hr hl)
      have HQ2 := Lib.hid (And.intro ht3 (ht5.trans hlen))
      clear hc hx hr ht1 ht2 ht3 ht4 ht5 ht6 ht7 hv hlen hsl
      go_wp2_with fail
      refine (HR.out _).mono ?_
      rintro e w3 ⟨rfl, rfl⟩
      go_wp2_with fail
      refine (HR2.out _).mono ?_
      rintro e w3 ⟨rfl, rfl⟩
      by_cases h0 : r2 = 0
      · have h0b : (r2 == 0) = true := by simp [h0]
        have s1 : (0 : Int) ≤ k := by omega
        clear h0 HR2 HR HT HQ2
        go_wp2
        go_region_with (first | (go_at_call 13; refine (HDI.out _).mono ?_; rintro e w5 ⟨d, hd, rfl, h5⟩; have M2 := Lib.hid (M1.out.drew.keep h5); have K5 := Lib.hid ((Held.refl wr).drew.step h5); have HD := Lib.hid (HWL.out d hd); clear hd h5; obtain ⟨⟨p0, p1, p2⟩, ⟨pf0, pf1, pf2⟩, plt⟩ := M2.out.box3 0 rfl) | (go_at_call 20; obtain ⟨L2, h2, hw1, hw2, _, hw4, _⟩ := HD.out; refine (HW.out d _ K5.out L2 h2 true hw1 hw4).mono ?_; rintro e w6 ⟨A5, cap5, rfl, hc5, ho5, h6⟩; have M3 := Lib.hid (M2.out.own h6 ho5); have HQ3 := Lib.hid (And.intro hw2 hw4); clear hw1 hw2 hw4 ho5 h6; obtain ⟨⟨p0, p1, p2⟩, ⟨pf0, pf1, pf2⟩, plt⟩ := M3.out.box3 0 rfl))
        all_goals
          have M4 := Lib.hid ((((M3.out.put 0 rfl 0 (.slice A5 n1 cap5)).put 0 rfl 1 (.int .i64 lim)).put 0 rfl 2 (.int .i64 h2)).sel [0, 2] (by decide))
          go_wp2
          go_roundw
          case rel => exact ⟨k + 1, by go_num, by omega, L2, h2, A5, cap5, HQ3.out.1, HQ3.out.2.trans HQ.out.2, hc5, M4.out⟩
          case measure => (simp [intOf]) <;> omega
      · have h0b : (r2 == 0) = false := by simp [h0]
        clear h0 HR2 HR HW HWL HDI
        go_wp2_with fail
        refine (HT.out _ (Held.refl _)).mono ?_
        rintro e w4 ⟨A5, cap5, rfl, hc5, ho5, h5⟩
        have M2 := Lib.hid (M1.out.own h5 ho5)
        clear ho5 h5 HT M1 p0 p1 p2 pf0 pf1 pf2 plt
        obtain ⟨⟨p0, p1, p2⟩, ⟨pf0, pf1, pf2⟩, plt⟩ := M2.out.box3 0 rfl
        have M3 := Lib.hid ((((M2.out.put 0 rfl 0 (.slice A5 n1 cap5)).put 0 rfl 1 (.int .i64 lim)).put 0 rfl 2 (.int .i64 hand')).sel [0, 2] (by decide))
        go_wp2
        go_roundw
        case rel => exact ⟨k + 1, by go_num, by omega, L', hand', A5, cap5, HQ2.out.1, HQ2.out.2, hc5, M3.out⟩
        case measure => (simp [intOf]) <;> omega
    · obtain rfl : k = n2 := by omega
      have hwb : i64ok page := hpg
      have HRP := Lib.hid (fun w' => Mk.round_any page (n1 + 1) hwb.1 hwb.2 (by omega) (by omega) w')
      have HPN := Lib.hid (fun w' => Plan.page_any num w' hnum)
      have HTL := Lib.hid (fun (pg : Int) (d : ByteArray) w' (q : Held wr w') => tells_any A n1 cap lim hand pg 3 lim L d w' (hsl.held q) (by omega) (valid_tiny hv))
      obtain ⟨r, hr⟩ : ∃ r, Mk.round page (n1 + 1) = r := ⟨_, rfl⟩
      rw [hr] at HRP
      have hwr : IntKind.i64.wrap ((n1 : Int) + 1) = (n1 : Int) + 1 := IntWalk.i64_in _ (by omega)
      clear hr hsl hv hlen
      go_wp2
      have HC := Lib.hid (fun w' (q : Held wr w') => And.intro (q.cell p0) (And.intro (q.cell p1) (And.intro (q.cell p2) q)))
      go_region_held3 (fun w' => w'.cell? ⟨pb, 0, none⟩ = some (.slice A n1 cap) ∧ w'.cell? ⟨pb, 1, none⟩ = some (.int .i64 lim) ∧ w'.cell? ⟨pb, 2, none⟩ = some (.int .i64 hand) ∧ Held wr w')
        (first | exact HC.out _ (Held.refl _).drew | exact HC.out _ (by assumption))
        (first | (go_at_call 19; refine (HRP.out _).mono ?_; rintro e w4 ⟨rfl, rfl⟩) | (go_at_call 22; refine (HPN.out _).mono ?_; rintro e w5 ⟨d, hd, _, rfl, h5⟩; have k5 : Held wr w5 := Held.step (by first | assumption | exact And.right (And.right (And.right (by assumption)))) h5; clear hd) | (go_at_call 17; refine (HTL.out r _ _ (by first | assumption | exact And.right (And.right (And.right (by assumption))))).mono ?_; rintro e w6 ⟨rfl, h6⟩; have k6 : Held wr w6 := Held.step (by first | assumption | exact And.right (And.right (And.right (by assumption)))) h6) | (go_at_call 9; refine (HAW.out _).mono ?_; rintro e w7 ⟨rfl, h7⟩; have k7 : Held wr w7 := Held.step (by first | assumption | exact And.right (And.right (And.right (by assumption)))) h7))
      go_wp2
      go_ret
      exact ⟨rfl, M1.out.held.step k7⟩
theorem nums_in {o : Option Addr} {len cap : Nat} {z : List Int} {W : World} (h : Rw.IsRow .i64 W o len cap z) : ∃ L, Sl 1 nuC W o len L ∧ (len : Int) ≤ 9223372036854775807 ∧ ∀ x ∈ L, i64ok x := by
  obtain ⟨L, hL, hmax, hwf, hcell⟩ := h.view
  refine ⟨L, ⟨hL, hcell.imp id ?_⟩, by unfold maxLen at hmax; omega, fun x hx => Rw.bd_i64 (hwf x hx)⟩
  rintro ⟨b, off, e, hb, hc⟩
  refine ⟨b, off, e, hb, fun k hk j v hv => ?_⟩
  rcases j with _ | j
  · simp only [nuC, List.getElem?_cons_zero, Option.some.injEq] at hv
    subst hv
    have := hc k hk
    simpa using this
  · simp [nuC] at hv
theorem reached (o1 : Option Addr) (len1 cap1 : Nat) (z1 : List Int) (lim : Int) (o2 : Option Addr) (len2 cap2 : Nat) (z2 : List Int) (page num : Int) (hl : (Lit.int .i64 lim).wf = true) (hp : (Lit.int .i64 page).wf = true) (hn : (Lit.int .i64 num).wf = true) (W : World) (h1 : Rw.IsRow .i64 W o1 len1 cap1 z1) (h2 : Rw.IsRow .i64 W o2 len2 cap2 z2) :
    Calls Try.prog 7 #[.slice o1 len1 cap1, .int .i64 lim, .slice o2 len2 cap2, .int .i64 page, .int .i64 num] W fun e w' => e = .returned (.bool true) ∧ Below W.heap.size W w' := by
  obtain ⟨U, u1, u2, u3⟩ := nums_in h1
  obtain ⟨V, v1, v2, v3⟩ := nums_in h2
  exact reached_any o1 len1 cap1 U lim o2 len2 cap2 V page num W u1 v1 u2 v2 u3 v3 (Rw.bd_i64 hp) (Rw.bd_i64 hn)
end Pg
end Go.Proofs.Ytgfbfmgdlbdlhaa
