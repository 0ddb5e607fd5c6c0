/-
  Contracts of the reference: Acked (printed by wip/tools/mkrsi.py; chapter 24).
  Contracts of the reference: insert (chapter 24).
  Contracts of the reference: Take (printed by wip/tools/mkrsk.py; chapter 24).
  The reference's SameReceiver at two receivers that hold the same (chapter 24).
-/
import Derived.Test.YthpjbffhdaaibaaGreatZ15
import Derived.Test.YthpjbffhdaaibaaGreatZ12
import Derived.Deep.RegionHeld3
set_option linter.unusedVariables false
set_option linter.unusedSimpArgs false
set_option maxRecDepth 100000
namespace Go.Proofs.YthpjbffhdaaibaaGreat
open Go.RowKit Go.BigFrame Go.Sort Go.Lib
namespace St
open Enc Uv Lg Lgc Strs
theorem opened_yes {l rest : List UInt8} {m : UInt8} {n : Nat} (h : opened l m = (n, rest, true)) : opens l = (n, m :: rest, 0) := by
  obtain ⟨a, b, c, e⟩ : ∃ a b c, opens l = (a, b, c) := ⟨_, _, _, rfl⟩
  unfold opened opened1 at h
  rw [e] at h ⊢
  simp only at h
  split at h
  · injection h with _ h; injection h with _ h; cases h
  · rename_i h0
    have hc : c = 0 := Decidable.not_not.1 h0
    subst hc
    cases b with
    | nil => injection h with _ h; injection h with _ h; cases h
    | cons x t =>
      simp only at h
      split at h
      · rename_i hx
        injection h with e1 e2
        injection e2 with e2 _
        subst e1 e2 hx
        rfl
      · injection h with _ h; injection h with _ h; cases h
theorem ack_canon {l rest : List UInt8} {n : Nat} (h : opened l 65 = (n, rest, true)) (hb : uvB rest = true) (hn : uvN rest = rest.length) : packed n (65 :: put (uvX rest)) = l := by
  have h1 := opens_ok (opened_yes h)
  cases hr : rd 0 0 rest with
  | none => rw [(uv_none hr).2.2] at hb; cases hb
  | some p =>
    obtain ⟨v, k⟩ := p
    obtain ⟨u1, u2, u3⟩ := uv_some hr
    obtain ⟨_, _, _, h4⟩ := put_rd hr
    rw [u1, h4, ← u2, hn, List.take_length]
    exact h1.1.symm
set_option maxHeartbeats 8000000 in
theorem ackedr_any (b t kn : Nat) (A : Option Addr) (n cap : Nat) (L : List SR) (s : ByteArray) (B : Nat) (w : World) (h : Sl 3 segC w A n L) (hg : Sgs B w L) (hn : n ≤ 1000000) (hcap : n ≤ cap) (hs : (s.size : Int) ≤ 1000000000) :
    Calls Tryz.prog 25 #[.agg #[.int .u64 b, .int .u64 t, .int .u64 kn, .slice A n cap], .string s] w (SndR B (acked ⟨b, t, kn, gs L⟩ s.data.toList).1 (.bool (acked ⟨b, t, kn, gs L⟩ s.data.toList).2) w) := by
  have HS := Lib.hid h
  have HG := Lib.hid hg
  have HL : Is L.length n := ⟨h.1⟩
  have hn2 : (n : Int) ≤ 1000000 := by omega
  have hql : (gs L).length = n := by rw [gs_len]; exact h.1
  have hol := opened_len s.data.toList 65
  have HO := fun w => openedr_any s 65 (by omega) w
  have HP : Is (acked ⟨b, t, kn, gs L⟩ s.data.toList) (acked1 ⟨b, t, kn, gs L⟩ (opened s.data.toList 65)) := ⟨rfl⟩
  obtain ⟨p, hp⟩ : ∃ p, acked ⟨b, t, kn, gs L⟩ s.data.toList = p := ⟨_, rfl⟩
  have hcan : ∀ n rest, opened s.data.toList 65 = (n, rest, true) → uvB rest = true → uvN rest = rest.length → packed n (65 :: put (uvX rest)) = s.data.toList := fun n rest h1 h2 h3 => ack_canon h1 h2 h3
  obtain ⟨o, ho⟩ : ∃ o, opened s.data.toList 65 = o := ⟨_, rfl⟩
  have hon := opened_lt s.data.toList 65
  rw [ho] at HO HP hol hon hcan
  obtain ⟨on, orest, ook⟩ := o
  have HO1 := Lib.hid HO
  rw [hp] at HP ⊢
  rw [len_eq] at hol
  simp only at hol hon
  have HCAN : Hid (ook = true → uvB orest = true → uvN orest = orest.length → packed on (65 :: put (uvX orest)) = s.data.toList) := fun e h2 h3 => hcan on orest (by rw [e]) h2 h3
  have HP1 : Is p (if (!ook || !sending ⟨b, t, kn, gs L⟩) = true then (⟨b, t, kn, gs L⟩, false) else if (!uvB orest || decide (uvN orest ≠ orest.length)) = true then (⟨b, t, kn, gs L⟩, false) else if (decide (on ≤ b) || decide (n < on - b)) = true then (⟨b, t, kn, gs L⟩, false) else if ackAt ⟨b, t, kn, gs L⟩ on ≠ some (uvX orest) then (⟨b, t, kn, gs L⟩, false) else (⟨on, t, uvX orest, (gs L).drop (on - b)⟩, true)) := ⟨by rw [HP.out]; unfold acked1; simp only [hql]⟩
  have hsq : sending ⟨b, t, kn, gs L⟩ = true → n ≤ 8 := fun e => by have := sending_len e; rw [← hql]; exact this
  have HSQ := Lib.hid hsq
  obtain ⟨sv, hsv⟩ : ∃ sv, sending ⟨b, t, kn, gs L⟩ = sv := ⟨_, rfl⟩
  have M0 := Lib.hid (((Mem.start w).alloc' (b := w.heap.size) rfl #[.int .u64 b, .int .u64 t, .int .u64 kn, .slice A n cap] 28).alloc' (b := w.heap.size + 1) (by simp) #[.int .u64 0, .int .u64 0, .int .u64 0, .slice none 0 0] 28)
  have HSN := Lib.hid fun (w' : World) (k : Held w w') => sendr_any b t kn A n cap L B w' (h.held k) (hg.held k) hn
  rw [hsv] at HP1 HSQ
  simp only [hsv] at HSN
  clear hp ho HO HP hsv h hg hql hsq hcan
  go_enter Tryz.func25, Tryz.ntmps25
  go_wp2_with fail
  refine (HO1.out _).mono ?_
  rintro e w3 ⟨rs, rfl, hrs, h3⟩
  dsimp only at hrs ⊢
  have HRS : Is rs.data.toList orest := ⟨hrs⟩
  have hrl : rs.size = orest.length := by rw [← hrs, len_eq]
  have M3 := Lib.hid (M0.out.keep h3)
  have HW := Lib.hid fun w => wholer_any rs (by omega) w
  rw [HRS.out] at HW
  have hX := uvX_lt orest
  have lp := put_len (uvX orest) hX
  clear h3 HO1 M0 hrs
  generalize uvX orest = X at HW HP1 HCAN hX lp
  generalize uvB orest = Y at HW HP1 HCAN
  generalize uvN orest = N at HW HP1 HCAN
  obtain ⟨is, his⟩ : ∃ is, (Y && decide (N = orest.length)) = is := ⟨_, rfl⟩
  rw [his] at HW
  have HIS := Lib.hid his
  clear his
  go_wp2_with fail
  refine (HW.out _).mono ?_
  rintro e w4 ⟨rfl, rfl⟩
  have M4 := M3
  clear HW M3
  cases ook
  · have HP2 : Is p (⟨b, t, kn, gs L⟩, false) := ⟨HP1.out⟩
    clear HP1
    obtain ⟨⟨c0, c1, c2, c3⟩, _, cl⟩ := M4.out.box4 0 rfl
    obtain ⟨_, ⟨rf0, rf1, rf2, rf3⟩, rl⟩ := M4.out.box4 1 rfl
    have MF := Lib.hid (M4.out.put4 1 rfl (.int .u64 b) (.int .u64 t) (.int .u64 kn) (.slice A n cap))
    go_wp2
    refine bodyPost_ret (Bx.res_ct Tryz.results25 rfl (snd_load (MF.out.blk 1 rfl))) rfl ?_
    exact SndR.mk (by rw [HP2.out]) (by rw [HP2.out]; rfl) (HS.out.held MF.out.held) (HG.out.held MF.out.held) MF.out.held
  cases is
  · have HP2 : Is p (⟨b, t, kn, gs L⟩, false) := ⟨by
      rw [HP1.out]
      have := HIS.out
      cases sv
      · rfl
      · rw [if_neg (by simp), if_pos]
        cases Y <;> simp_all⟩
    clear HP1
    obtain ⟨⟨c0, c1, c2, c3⟩, _, cl⟩ := M4.out.box4 0 rfl
    obtain ⟨_, ⟨rf0, rf1, rf2, rf3⟩, rl⟩ := M4.out.box4 1 rfl
    have MF := Lib.hid (M4.out.put4 1 rfl (.int .u64 b) (.int .u64 t) (.int .u64 kn) (.slice A n cap))
    go_wp2
    refine bodyPost_ret (Bx.res_ct Tryz.results25 rfl (snd_load (MF.out.blk 1 rfl))) rfl ?_
    exact SndR.mk (by rw [HP2.out]) (by rw [HP2.out]; rfl) (HS.out.held MF.out.held) (HG.out.held MF.out.held) MF.out.held
  have hYN : Y = true ∧ N = orest.length := by have := HIS.out; simpa using this
  obtain ⟨rfl, rfl⟩ := hYN
  have HP3 : Is p (if sv = false then (⟨b, t, kn, gs L⟩, false) else if (decide (on ≤ b) || decide (n < on - b)) = true then (⟨b, t, kn, gs L⟩, false) else if ackAt ⟨b, t, kn, gs L⟩ on ≠ some X then (⟨b, t, kn, gs L⟩, false) else (⟨on, t, X, (gs L).drop (on - b)⟩, true)) := ⟨by rw [HP1.out]; cases sv <;> simp⟩
  have hcn := HCAN.out rfl rfl rfl
  have P1 := fun w => put_ref_any X (by omega) w
  have P2 := fun w => pack_ref_any on (⟨#[65]⟩ ++ ⟨(put X).toArray⟩) (by omega) (by rw [mark_size]; omega) w
  rw [mark_list, hcn] at P2
  unfold MakesS at P2
  generalize put X = px at P1 P2 lp
  have HP1' := Lib.hid P1
  have HP2' := Lib.hid P2
  have hss : (⟨s.data.toList.toArray⟩ : ByteArray) = s := by simp
  rw [hss] at HP2'
  have hse : (s.toList == s.toList) = true := by simp
  clear P1 P2 hcn HP1 HCAN HIS hss
  go_wp2_with fail
  refine (HP1'.out _).mono ?_
  rintro e w5 ⟨rfl, h5⟩
  go_wp2_with fail
  refine (HP2'.out _).mono ?_
  rintro e w6 ⟨rfl, h6⟩
  have M6 := Lib.hid ((M4.out.keep h5).keep h6)
  clear h5 h6 HP1' HP2' M4
  obtain ⟨⟨c0, c1, c2, c3⟩, _, cl⟩ := M6.out.box4 0 rfl
  go_wp2_with fail
  refine (HSN.out _ M6.out.held).mono ?_
  rintro e w7 ⟨rfl, h7⟩
  have M7 := Lib.hid (M6.out.keep h7)
  clear h7 HSN M6 c0 c1 c2 c3 cl
  cases sv
  · have HP2 : Is p (⟨b, t, kn, gs L⟩, false) := ⟨HP3.out⟩
    clear HP3
    obtain ⟨⟨c0, c1, c2, c3⟩, _, cl⟩ := M7.out.box4 0 rfl
    obtain ⟨_, ⟨rf0, rf1, rf2, rf3⟩, rl⟩ := M7.out.box4 1 rfl
    have MF := Lib.hid (M7.out.put4 1 rfl (.int .u64 b) (.int .u64 t) (.int .u64 kn) (.slice A n cap))
    go_wp2
    refine bodyPost_ret (Bx.res_ct Tryz.results25 rfl (snd_load (MF.out.blk 1 rfl))) rfl ?_
    exact SndR.mk (by rw [HP2.out]) (by rw [HP2.out]; rfl) (HS.out.held MF.out.held) (HG.out.held MF.out.held) MF.out.held
  have hn8 := HSQ.out rfl
  have HP5 : Is p (if (decide (on ≤ b) || decide (n < on - b)) = true then (⟨b, t, kn, gs L⟩, false) else if ackAt ⟨b, t, kn, gs L⟩ on ≠ some X then (⟨b, t, kn, gs L⟩, false) else (⟨on, t, X, (gs L).drop (on - b)⟩, true)) := ⟨by rw [HP3.out, if_neg (by simp)]⟩
  clear HP3
  by_cases t5 : (on : Int) ≤ b
  · have HP2 : Is p (⟨b, t, kn, gs L⟩, false) := ⟨by rw [HP5.out, if_pos (by simp; omega)]⟩
    clear HP5
    obtain ⟨⟨c0, c1, c2, c3⟩, _, cl⟩ := M7.out.box4 0 rfl
    obtain ⟨_, ⟨rf0, rf1, rf2, rf3⟩, rl⟩ := M7.out.box4 1 rfl
    have MF := Lib.hid (M7.out.put4 1 rfl (.int .u64 b) (.int .u64 t) (.int .u64 kn) (.slice A n cap))
    go_wp2
    refine bodyPost_ret (Bx.res_ct Tryz.results25 rfl (snd_load (MF.out.blk 1 rfl))) rfl ?_
    exact SndR.mk (by rw [HP2.out]) (by rw [HP2.out]; rfl) (HS.out.held MF.out.held) (HG.out.held MF.out.held) MF.out.held
  have t5d : decide ((on : Int) ≤ b) = false := decide_eq_false t5
  have t5n : decide (on ≤ b) = false := decide_eq_false (by omega)
  obtain ⟨gone, hgone⟩ : ∃ g, on - b = g := ⟨_, rfl⟩
  have hg1 : (on : Int) - b = (gone : Int) := by omega
  have hgw : IntKind.u64.wrap ((on : Int) - b) = (gone : Int) := by rw [IntWalk.u64_in _ (by omega)]; exact hg1
  have hg2 : 1 ≤ gone := by omega
  rw [hgone, t5n, Bool.false_or] at HP5
  have HGN := Lib.hid hgone
  have hgl : (gone : Int) ≤ 18446744073709551615 := by omega
  clear hgone
  by_cases t6 : (n : Int) < gone
  · have HP2 : Is p (⟨b, t, kn, gs L⟩, false) := ⟨by rw [HP5.out, if_pos (by simp; omega)]⟩
    clear HP5
    obtain ⟨⟨c0, c1, c2, c3⟩, _, cl⟩ := M7.out.box4 0 rfl
    obtain ⟨_, ⟨rf0, rf1, rf2, rf3⟩, rl⟩ := M7.out.box4 1 rfl
    have MF := Lib.hid (M7.out.put4 1 rfl (.int .u64 b) (.int .u64 t) (.int .u64 kn) (.slice A n cap))
    go_wp2
    refine bodyPost_ret (Bx.res_ct Tryz.results25 rfl (snd_load (MF.out.blk 1 rfl))) rfl ?_
    exact SndR.mk (by rw [HP2.out]) (by rw [HP2.out]; rfl) (HS.out.held MF.out.held) (HG.out.held MF.out.held) MF.out.held
  have t6d : decide ((n : Int) < gone) = false := decide_eq_false t6
  have t6n : decide (n < gone) = false := decide_eq_false (by omega)
  have HP6 : Is p (if ackAt ⟨b, t, kn, gs L⟩ on ≠ some X then (⟨b, t, kn, gs L⟩, false) else (⟨on, t, X, (gs L).drop gone⟩, true)) := ⟨by rw [HP5.out, t6n]; rfl⟩
  clear HP5
  obtain ⟨k, hk⟩ : ∃ k, gone = k + 1 := ⟨gone - 1, by omega⟩
  have hk1 : (gone : Int) - 1 = (k : Int) := by omega
  have hk2 : (k : Int) < n := by omega
  have hk3 : (0 : Int) ≤ k := by omega
  have hkw : IntKind.i64.wrap ((gone : Int) - 1) = (k : Int) := by rw [IntWalk.i64_in _ (by omega)]; exact hk1
  have hgi : IntKind.i64.wrap (gone : Int) = (gone : Int) := IntWalk.i64_in _ (by omega)
  obtain ⟨b1, off, xf, xk, xA, xn, xc, xes, rfl, hb1, hxk, x0, x1, x2⟩ := segAt HS.out M7.out.held (k := k) (by omega)
  have HA : Is (ackAt ⟨b, t, kn, gs L⟩ on) (some xk) := ⟨ackAt_eq hxk (by rw [HGN.out]; omega)⟩
  have HP7 : Is p (if xk ≠ X then (⟨b, t, kn, gs L⟩, false) else (⟨on, t, X, (gs L).drop gone⟩, true)) := ⟨by rw [HP6.out, HA.out]; simp⟩
  have hxkq := Lib.hid hxk
  have HKG : Is gone (k + 1) := ⟨hk⟩
  clear HP6 HA hxk HGN hk
  by_cases t7 : ¬ xk = X
  · have t7b : ((xk : Int) == X) = false := by rw [beq_eq_false_iff_ne]; omega
    have t7c : (xk == X) = false := by rw [beq_eq_false_iff_ne]; exact t7
    have t7d : ((xk : Int) != X) = true := by rw [bne, t7b]; rfl
    have HP2 : Is p (⟨b, t, kn, gs L⟩, false) := ⟨by rw [HP7.out, if_pos t7]⟩
    clear HP7
    obtain ⟨⟨c0, c1, c2, c3⟩, _, cl⟩ := M7.out.box4 0 rfl
    obtain ⟨_, ⟨rf0, rf1, rf2, rf3⟩, rl⟩ := M7.out.box4 1 rfl
    have MF := Lib.hid (M7.out.put4 1 rfl (.int .u64 b) (.int .u64 t) (.int .u64 kn) (.slice (some ⟨b1, off, none⟩) n cap))
    go_wp2
    refine bodyPost_ret (Bx.res_ct Tryz.results25 rfl (snd_load (MF.out.blk 1 rfl))) rfl ?_
    exact SndR.mk (by rw [HP2.out]) (by rw [HP2.out]; rfl) (HS.out.held MF.out.held) (HG.out.held MF.out.held) MF.out.held
  have t7 := Decidable.not_not.1 t7
  subst t7
  have HP2 : Is p (⟨on, t, xk, (gs L).drop gone⟩, true) := ⟨by rw [HP7.out, if_neg (by simp)]⟩
  clear HP7
  have hd := HS.out.drop (k := gone) (by omega)
  obtain ⟨i0, hi0, hz0, hz1, hz2⟩ := info_parts info_seg
  have hsl0 := fun w' => Sg.slice_from (P := Tryz.prog) Tryz.underlying26 hi0 hz1 b1 off n cap gone (by omega) hcap w'
  obtain ⟨A2, hA2⟩ : ∃ A2 : Addr, (if cap = gone then (⟨b1, off, none⟩ : Addr) else ⟨b1, off + gone * 3, none⟩) = A2 := ⟨_, rfl⟩
  have hd2 : Sl 3 segC w (some A2) (n - gone) (L.drop gone) := by
    by_cases e : cap = gone
    · exact ⟨hd.1, .inl (by omega)⟩
    · rw [if_neg e] at hA2; rw [← hA2]; exact hd
  have HLD : Is (L.drop gone).length (n - gone) := ⟨hd.1⟩
  simp only [hA2] at hsl0
  obtain ⟨m5, hm5⟩ : ∃ m5, n - gone = m5 := ⟨_, rfl⟩
  obtain ⟨c5, hc5⟩ : ∃ c5, cap - gone = c5 := ⟨_, rfl⟩
  rw [hm5] at hd2
  simp only [hm5, hc5] at hsl0
  have hm8 : m5 ≤ 8 := by omega
  have hgn : (gone : Int) ≤ n := by omega
  have hg0 : (0 : Int) ≤ gone := by omega
  have HD2 := Lib.hid hd2
  obtain ⟨⟨c0, c1, c2, c3⟩, ⟨cf0, cf1, cf2, cf3⟩, cl⟩ := M7.out.box4 0 rfl
  have ME := Lib.hid (M7.out.emptyRow (e := 25) (s := 3) (f := segC) (b := w7.heap.size) rfl)
  have HX := Lib.hid fun w' (k : Held w7 w') => k
  have y1 := (M7.out.held)
  obtain ⟨b2, off2, yf, yk, yA, yn, yc, yes, he2, _, hyk, y0', y1', y2'⟩ := segAt HS.out M7.out.held (k := k) (by omega)
  clear y1 hd hd2 hA2 hm5 hc5 hi0 hz0 hz1 hz2 HX hcap
  injection he2 with he2
  injection he2 with he21 he22
  subst he21 he22
  have hyx : (yk : Nat) = xk := by
    have h1 := hxkq.out
    rw [hyk] at h1
    injection h1 with h1
    injection h1
  subst hyx
  clear hyk hxkq x0 x1 x2 t6n t6
  go_wp2_with (at_builtin; refine Mem.wp_cat ME.out 2 rfl rfl _ _ _ rfl _ 40 Tryz.underlying26 info_seg rfl (by decide) segC_len segC_one (L.drop gone) (some A2) m5 c5 rfl rfl (HD2.out.held (M7.out.held.step ((Held.refl w7).alloc _))) rfl (by omega) (by decide) ?_; intro A8 c8 w8 M8' _; simp only [Nat.zero_add, List.nil_append] at M8' ⊢; have M8 := Lib.hid M8'; clear M8'; clear c0 c1 c2 c3 cf0 cf1 cf2 cf3 cl y0' y1' y2'; obtain ⟨⟨c0, c1, c2, c3⟩, ⟨cf0, cf1, cf2, cf3⟩, cl⟩ := M8.out.box4 0 rfl; obtain ⟨_, ⟨rf0, rf1, rf2, rf3⟩, rl⟩ := M8.out.box4 1 rfl; have hne := M8.out.ne 0 1 rfl rfl (by decide))
  have MF := Lib.hid ((((M8.out.put 0 rfl 3 (.slice A8 m5 c8)).put 0 rfl 0 (.int .u64 on)).put 0 rfl 2 (.int .u64 yk)).put4 1 rfl (.int .u64 on) (.int .u64 t) (.int .u64 yk) (.slice A8 m5 c8))
  refine bodyPost_ret (Bx.res_ct Tryz.results25 rfl (snd_load (MF.out.blk 1 rfl))) rfl ?_
  exact SndR.mk (by rw [HP2.out, gs_drop]) (by rw [HP2.out]; rfl) (Own.reads segC_len (MF.out.row 2 rfl)).1 ((HG.out.held MF.out.held).drop gone) MF.out.held
end St
end Go.Proofs.YthpjbffhdaaibaaGreat

set_option linter.unusedVariables false
set_option linter.unusedSimpArgs false
set_option maxRecDepth 100000
namespace Go.Proofs.YthpjbffhdaaibaaGreat
open Go.RowKit Go.BigFrame Go.Sort Go.Lib
namespace St
open Enc Uv Lg Lgc Strs
theorem before_at (n : Nat) : ∀ (l : List Er) (k : Nat), k ≤ l.length → (∀ j (h : j < l.length), j < k → l[j].s < n) → (∀ h : k < l.length, ¬ l[k].s < n) → before n l = k
  | [], k, hk, _, _ => by simp at hk; subst hk; rfl
  | x :: l, 0, _, _, h2 => by
    have h3 : ¬ x.s < n := h2 (Nat.succ_pos _)
    rw [before_cons]; exact if_neg h3
  | x :: l, k + 1, hk, h1, h2 => by
    have h3 : x.s < n := h1 0 (Nat.succ_pos _) (Nat.succ_pos _)
    have h4 := before_at n l k (by simpa using hk) (fun j hj hjk => by have := h1 (j + 1) (by simp; omega) (by omega); simpa using this) (fun h => by have := h2 (by simp; omega); simpa using this)
    rw [before_cons]; exact (if_pos h3).trans (congrArg (· + 1) h4)
/-- 'l[:j]' and 'l[j:]' of whatever reads as a list. -/
theorem cut_to {α : Type} {s : Nat} {f : α → List Value} {P : Program} {t e : TypeId} {i0 : TypeInfo} (ht : P.underlying t = some (.slice e)) (hi : P.info? e = some i0) (hs : i0.size = s) {w : World} {A : Option Addr} {n : Nat} {L : List α} (h : Sl s f w A n L) (cap j : Nat) (hj : j ≤ n) (hn : n ≤ cap) :
    ∃ A2, (∀ w', (Instr.slice t (.slice A n cap) none (some (.int .i64 j)) none).run P w' = .ok (.slice A2 j cap) w') ∧ Sl s f w A2 j (L.take j) := by
  subst hs
  refine ⟨if cap = 0 then A else A.map (·.add (0 * i0.size)), fun w' => ?_, ?_⟩
  · have h1 : (j : Int) ≤ cap := by omega
    simp [Instr.slice, run_underlying ht, Instr.sliceBounds, Instr.sliceBound, asIntOf, sizeOf, typeInfo, hi, h1]
    intro h9; omega
  · have h0 := h.take hj
    rcases h0.2 with e | ⟨b, off, rfl, hb, hc⟩
    · exact ⟨h0.1, .inl e⟩
    · have : (if cap = 0 then (some ⟨b, off, none⟩ : Option Addr) else (some ⟨b, off, none⟩ : Option Addr).map (·.add (0 * i0.size))) = some ⟨b, off, none⟩ := by
        split
        · rfl
        · simp [addr_add]
      rw [this]; exact h0
theorem cut_from {α : Type} {s : Nat} {f : α → List Value} {P : Program} {t e : TypeId} {i0 : TypeInfo} (ht : P.underlying t = some (.slice e)) (hi : P.info? e = some i0) (hs : i0.size = s) {w : World} {A : Option Addr} {n : Nat} {L : List α} (h : Sl s f w A n L) (cap j : Nat) (hj : j ≤ n) (hn : n ≤ cap) :
    ∃ A2, (∀ w', (Instr.slice t (.slice A n cap) (some (.int .i64 j)) none none).run P w' = .ok (.slice A2 (n - j) (cap - j)) w') ∧ Sl s f w A2 (n - j) (L.drop j) := by
  subst hs
  refine ⟨if cap = j then A else A.map (·.add (j * i0.size)), fun w' => ?_, ?_⟩
  · have h1 : (j : Int) ≤ n := by omega
    simp [Instr.slice, run_underlying ht, Instr.sliceBounds, Instr.sliceBound, asIntOf, sizeOf, typeInfo, hi, h1]
    intro h9; omega
  · rcases h.2 with e | ⟨b, off, rfl, hb, hc⟩
    · exact ⟨by rw [List.length_drop, h.1], .inl (by omega)⟩
    · by_cases e : cap = j
      · exact ⟨by rw [List.length_drop, h.1], .inl (by omega)⟩
      · have : (if cap = j then (some ⟨b, off, none⟩ : Option Addr) else (some ⟨b, off, none⟩ : Option Addr).map (·.add (j * i0.size))) = some ⟨b, off + j * i0.size, none⟩ := by
          rw [if_neg e]; simp [addr_add]
        rw [this]; exact h.drop hj
/-- A call hands back early segments of its own. -/
def ErsTo (E : List ErR) (w : World) (e : Ending) (w' : World) : Prop := ∃ A n cap, e = .returned (.slice A n cap) ∧ Own 72 4 erC w.heap.size w' (.slice A n cap) E ∧ Held w w'
/-- The records with one more, at its place. -/
def insR (x : ErR) (L : List ErR) : List ErR := L.take (before x.s (ers L)) ++ [x] ++ L.drop (before x.s (ers L))
theorem insR_ers (x : ErR) (L : List ErR) : ers (insR x L) = ins x.e (ers L) := by
  unfold insR ins ers
  rw [List.map_append, List.map_append, List.map_take, List.map_drop]
  simp [ErR.e]
theorem insR_mem {x y : ErR} {L : List ErR} (h : y ∈ insR x L) : y = x ∨ y ∈ L := by
  unfold insR at h
  rcases List.mem_append.1 h with h | h
  · rcases List.mem_append.1 h with h | h
    · exact .inr (List.mem_of_mem_take h)
    · rw [List.mem_singleton] at h; exact .inl h
  · exact .inr (List.mem_of_mem_drop h)
set_option maxHeartbeats 8000000 in
theorem insert_any (A : Option Addr) (n cap : Nat) (L : List ErR) (s f kn : Nat) (A' : Option Addr) (n' cap' : Nat) (es : List Ent) (w : World) (h : Sl 4 erC w A n L) (hA : A = none → n = 0) (hn : n ≤ 1000) (hcap : n ≤ cap) (hcm : cap ≤ maxLen) :
    Calls Tryz.prog 65 #[.slice A n cap, .agg #[.int .u64 s, .int .u64 f, .int .u64 kn, .slice A' n' cap']] w (ErsTo (insR ⟨s, f, kn, A', n', cap', es⟩ L) w) := by
  have HS := Lib.hid h
  have HL : Is L.length n := ⟨h.1⟩
  have hn2 : (n : Int) ≤ 1000 := by omega
  have hcm' : (cap : Int) ≤ 9223372036854775807 := by unfold maxLen at hcm; omega
  have hcap' : (n : Int) ≤ cap := by omega
  have M0 := Lib.hid ((Mem.start w).alloc' (b := w.heap.size) rfl #[.int .u64 s, .int .u64 f, .int .u64 kn, .slice A' n' cap'] 72)
  obtain ⟨bx, hbx⟩ : ∃ bx, before s (ers L) = bx := ⟨_, rfl⟩
  have HIN : Is (insR ⟨s, f, kn, A', n', cap', es⟩ L) (L.take bx ++ [⟨s, f, kn, A', n', cap', es⟩] ++ L.drop bx) := ⟨by unfold insR; rw [hbx]⟩
  have HBX := Lib.hid hbx
  rw [HIN.out]
  clear h hcm hbx
  go_enter Tryz.func65, Tryz.ntmps65
  go_wp2
  go_loopw [5] (fun i wr => ∃ q : Nat, i = .int .i64 (q : Int) ∧ q ≤ n ∧ (∀ j (h : j < (ers L).length), j < q → (ers L)[j].s < s) ∧ Mem w wr [.box w.heap.size #[.int .u64 s, .int .u64 f, .int .u64 kn, .slice A' n' cap'] 72]) (fun i _ => n - (RowKit.intOf i).toNat)
  case atStart => exact ⟨0, rfl, Nat.zero_le _, fun j h hj => absurd hj (Nat.not_lt_zero j), M0.out⟩
  case round =>
    obtain ⟨q, rfl, hq, hlo, hM⟩ := hrel
    have HLO := Lib.hid hlo
    have M := Lib.hid hM
    clear hlo hM M0
    obtain ⟨⟨c0, c1, c2, c3⟩, _, cl⟩ := M.out.box4 0 rfl
    by_cases hlt : q < n ∧ ∀ h : q < (ers L).length, (ers L)[q].s < s
    · obtain ⟨hqn, hls⟩ := hlt
      obtain ⟨b1, off, s', f', kn', xA, xn, xc, es', rfl, hb1, hx, x0, x1, x2, x3⟩ := erAt HS.out M.out.held (k := q) hqn
      have hql : q < (ers L).length := by rw [ers_len, HL.out]; exact hqn
      have hxe : (ers L)[q].s = s' := by
        obtain ⟨h1, h2⟩ := List.getElem?_eq_some_iff.1 hx
        exact congrArg Er.s ((List.getElem_map ErR.e).trans (congrArg ErR.e h2))
      have hss := hls hql
      rw [hxe] at hss
      have z1 : decide ((q : Int) < n) = true := decide_eq_true (by omega)
      have z1n : decide (q < n) = true := decide_eq_true hqn
      have z2 : (q : Int) < n := by omega
      have z3 : (0 : Int) ≤ q := by omega
      have z4 : decide ((s' : Int) < s) = true := decide_eq_true (by omega)
      have z4n : decide (s' < s) = true := decide_eq_true hss
      have HLO2 : Hid (∀ j (h : j < (ers L).length), j < q + 1 → (ers L)[j].s < s) := fun j h hj => by
        by_cases e : j = q
        · subst e; exact hls h
        · exact HLO.out j h (by omega)
      have k0 := cell_regrown c0
      have k1 := cell_regrown x0
      clear hx hxe hls hql c0 c1 c2 c3 x0 x1 x2 x3 cl hb1
      go_upto_region 2 with fail
      refine wp_region_quiet_below (by kernel_rfl) (by kernel_rfl) ?_
      repeat (go_big_quiet_step (fail))
      refine wpQuiet_nil ?_
      intro w5 hw'
      obtain ⟨⟨dq, osq⟩, hw''⟩ := hw'
      have h5 : Held wr w5 := by rw [hw'']; exact below_regrown wr dq osq
      clear hw'' k0 k1
      go_wp2
      go_roundw
      case rel => exact ⟨q + 1, by go_num, by omega, HLO2.out, M.out.keep h5⟩
      case measure => (simp [RowKit.intOf]) <;> omega
    · have hbq : before s (ers L) = q := before_at s (ers L) q (by rw [ers_len, HL.out]; exact hq) (fun j h hj => HLO.out j h hj) (fun h h2 => hlt ⟨by rw [ers_len, HL.out] at h; exact h, fun _ => h2⟩)
      have hbe : bx = q := by rw [← HBX.out]; exact hbq
      obtain ⟨i0, hi0, hz0, hz1, hz2⟩ := info_parts info_er
      obtain ⟨AT, hT, hSlT⟩ := cut_to (P := Tryz.prog) Tryz.underlying29 hi0 hz1 HS.out cap q hq hcap
      obtain ⟨AF, hF, hSlF⟩ := cut_from (P := Tryz.prog) Tryz.underlying29 hi0 hz1 HS.out cap q hq hcap
      obtain ⟨m5, hm5⟩ : ∃ m5, n - q = m5 := ⟨_, rfl⟩
      obtain ⟨c5, hc5⟩ : ∃ c5, cap - q = c5 := ⟨_, rfl⟩
      simp only [hm5, hc5] at hF hSlF
      have HT := Lib.hid hSlT
      have HF := Lib.hid hSlF
      have hlt2 : (L.take q).length = q := hSlT.1
      have hm6 : m5 ≤ 1000 := by omega
      have HLT : Is (L.take q).length q := ⟨hlt2⟩
      have hq3 : (q : Int) ≤ n := by omega
      have hq4 : (q : Int) ≤ cap := by omega
      have hq0 : (0 : Int) ≤ q := by omega
      have HBQ : Is bx q := ⟨hbe⟩
      have ME := Lib.hid (M.out.emptyRow (e := 72) (s := 4) (f := erC) (b := wr.heap.size) rfl)
      clear hi0 hz0 hz1 hz2 hm5 hc5 hSlT hSlF hlt2 hbq hbe HLO
      rw [HBQ.out]
      by_cases hqn : q < n
      · have hql : q < (ers L).length := by rw [ers_len, HL.out]; exact hqn
        have hns : ¬ (ers L)[q].s < s := fun h => hlt ⟨hqn, fun _ => h⟩
        obtain ⟨b1, off, s', f', kn', xA, xn, xc, es', rfl, hb1, hx, x0, x1, x2, x3⟩ := erAt HS.out M.out.held (k := q) hqn
        have hxe : (ers L)[q].s = s' := by
          obtain ⟨h1, h2⟩ := List.getElem?_eq_some_iff.1 hx
          exact congrArg Er.s ((List.getElem_map ErR.e).trans (congrArg ErR.e h2))
        rw [hxe] at hns
        have z1 : decide ((q : Int) < n) = true := decide_eq_true (by omega)
        have z1n : decide (q < n) = true := decide_eq_true hqn
        have z2 : (q : Int) < n := by omega
        have z3 : (0 : Int) ≤ q := by omega
        have z4 : decide ((s' : Int) < s) = false := decide_eq_false (by omega)
        have z4n : decide (s' < s) = false := decide_eq_false hns
        have k0 := cell_regrown c0
        have k1 := cell_regrown x0
        clear hx hxe hql x0 x1 x2 x3 hb1 hns hlt
        go_upto_region 2 with fail
        refine wp_region_quiet_below (by kernel_rfl) (by kernel_rfl) ?_
        repeat (go_big_quiet_step (fail))
        refine wpQuiet_nil ?_
        intro w5 hw'
        obtain ⟨⟨dq, osq⟩, hw''⟩ := hw'
        have h5 : Held wr w5 := by rw [hw'']; exact below_regrown wr dq osq
        have ME5 := Lib.hid ((M.out.keep h5).emptyRow (e := 72) (s := 4) (f := erC) (b := w5.heap.size) rfl)
        have M5 := Lib.hid (M.out.keep h5)
        clear hw'' k0 k1 c0 c1 c2 c3 cl h5 ME
        obtain ⟨⟨c0, c1, c2, c3⟩, _, cl⟩ := M5.out.box4 0 rfl
        go_wp2_with (at_builtin; first
            | (refine Mem.wp_cat ME5.out 1 rfl rfl _ _ _ rfl _ 48 Tryz.underlying29 info_er rfl (by decide) erC_len erC_one (L.take q) AT q cap rfl rfl (HT.out.held (M5.out.held.step ((Held.refl w5).alloc _))) rfl (by omega) (by decide) ?_; intro A7 c7 w7 M7' _; simp only [Nat.zero_add, List.nil_append] at M7' ⊢; have M7 := Lib.hid M7'; clear M7'; clear c0 c1 c2 c3 cl; obtain ⟨⟨c0, c1, c2, c3⟩, _, cl⟩ := M7.out.box4 0 rfl; have M7b := Lib.hid (M7.out.alloc #[.int .u64 s, .int .u64 f, .int .u64 kn, .slice A' n' cap'] 72))
            | (refine Mem.wp_app M7b.out 1 rfl rfl _ _ _ rfl _ 48 Tryz.underlying29 info_er rfl (by decide) erC_len erC_one ⟨s, f, kn, A', n', cap', es⟩ ⟨w7.heap.size, 0, none⟩ 1 rfl rfl (cells_new _ rfl _ _) q HLT.out (by omega) (by decide) ?_; intro g8 c8 w8 M8'; have M8 := Lib.hid M8'; clear M8')
            | (refine Mem.wp_cat M8.out 1 rfl rfl _ _ _ rfl _ 48 Tryz.underlying29 info_er rfl (by decide) erC_len erC_one (L.drop q) AF m5 c5 rfl rfl (HF.out.held M8.out.held) (by rw [List.length_append, HLT.out]; rfl) (by omega) (by decide) ?_; intro A9 c9 w9 M9' _; have M9 := Lib.hid M9'; clear M9'))
        refine bodyPost_ret (v := .slice A9 (q + 1 + m5) c9) (by simp [results, Tryz.results65, go_sem]) rfl ?_
        exact ⟨A9, q + 1 + m5, c9, rfl, by have hrow := M9.out.row 1 rfl; rw [HBQ.out]; first | exact hrow | (rw [List.append_assoc] at hrow; exact hrow), M9.out.held⟩
      · have z1 : decide ((q : Int) < n) = false := decide_eq_false (by omega)
        have z1n : decide (q < n) = false := decide_eq_false hqn
        have z2 : ¬ (q : Int) < n := by omega
        clear hlt
        go_upto_region 2 with fail
        refine wp_region_quiet_below (by kernel_rfl) (by kernel_rfl) ?_
        repeat (go_big_quiet_step (fail))
        refine wpQuiet_nil ?_
        intro w5 hw'
        obtain ⟨⟨dq, osq⟩, hw''⟩ := hw'
        have h5 : Held wr w5 := by rw [hw'']; exact below_regrown wr dq osq
        have ME5 := Lib.hid ((M.out.keep h5).emptyRow (e := 72) (s := 4) (f := erC) (b := w5.heap.size) rfl)
        have M5 := Lib.hid (M.out.keep h5)
        clear hw'' c0 c1 c2 c3 cl h5 ME
        obtain ⟨⟨c0, c1, c2, c3⟩, _, cl⟩ := M5.out.box4 0 rfl
        go_wp2_with (at_builtin; first
            | (refine Mem.wp_cat ME5.out 1 rfl rfl _ _ _ rfl _ 48 Tryz.underlying29 info_er rfl (by decide) erC_len erC_one (L.take q) AT q cap rfl rfl (HT.out.held (M5.out.held.step ((Held.refl w5).alloc _))) rfl (by omega) (by decide) ?_; intro A7 c7 w7 M7' _; simp only [Nat.zero_add, List.nil_append] at M7' ⊢; have M7 := Lib.hid M7'; clear M7'; clear c0 c1 c2 c3 cl; obtain ⟨⟨c0, c1, c2, c3⟩, _, cl⟩ := M7.out.box4 0 rfl; have M7b := Lib.hid (M7.out.alloc #[.int .u64 s, .int .u64 f, .int .u64 kn, .slice A' n' cap'] 72))
            | (refine Mem.wp_app M7b.out 1 rfl rfl _ _ _ rfl _ 48 Tryz.underlying29 info_er rfl (by decide) erC_len erC_one ⟨s, f, kn, A', n', cap', es⟩ ⟨w7.heap.size, 0, none⟩ 1 rfl rfl (cells_new _ rfl _ _) q HLT.out (by omega) (by decide) ?_; intro g8 c8 w8 M8'; have M8 := Lib.hid M8'; clear M8')
            | (refine Mem.wp_cat M8.out 1 rfl rfl _ _ _ rfl _ 48 Tryz.underlying29 info_er rfl (by decide) erC_len erC_one (L.drop q) AF m5 c5 rfl rfl (HF.out.held M8.out.held) (by rw [List.length_append, HLT.out]; rfl) (by omega) (by decide) ?_; intro A9 c9 w9 M9' _; have M9 := Lib.hid M9'; clear M9'))
        refine bodyPost_ret (v := .slice A9 (q + 1 + m5) c9) (by simp [results, Tryz.results65, go_sem]) rfl ?_
        exact ⟨A9, q + 1 + m5, c9, rfl, by have hrow := M9.out.row 1 rfl; rw [HBQ.out]; first | exact hrow | (rw [List.append_assoc] at hrow; exact hrow), M9.out.held⟩
end St
end Go.Proofs.YthpjbffhdaaibaaGreat

set_option linter.unusedVariables false
set_option linter.unusedSimpArgs false
set_option maxRecDepth 100000
namespace Go.Proofs.YthpjbffhdaaibaaGreat
open Go.RowKit Go.BigFrame Go.Sort Go.Lib
namespace St
open Enc Uv Lg Lgc Strs
/-- A call hands back a receiver that can be read, the segments that are delivered, and whether the packet was taken. -/
def RcvR (B : Nat) (x : Rcv × List Seg × Bool) (w : World) (e : Ending) (w' : World) : Prop := ∃ A n cap DA dn dc RE RD, e = .returned (.tuple #[.agg #[.int .u64 x.1.n, .int .u64 x.1.kn, .slice A n cap], .slice DA dn dc, .bool x.2.2]) ∧ ers RE = x.1.e ∧ gs RD = x.2.1 ∧ Sl 4 erC w' A n RE ∧ Ers B w' RE ∧ n ≤ cap ∧ cap ≤ maxLen ∧ Sl 3 segC w' DA dn RD ∧ Sgs B w' RD ∧ Held w w'
theorem wp_catC {W w : World} {H : List Ck} {α : Type} {e : TypeId} {s : Nat} {f : α → List Value} (h : Mem W w H) (i : Nat) {A0 : Option Addr} {n cap0 : Nat} {L : List α} (hi : H[i]? = some (.row e s f W.heap.size (.slice A0 n cap0) L)) {P : Program} {ops : Array Oper} {rest : List Oper} {o : Oper} {a : Act} {Q : Exit → Act → World → Prop} (hgd : o.guard = none) (sl x : Operand) (t : TypeId)
    (ho : o.op = .call { callee := .builtin .append, args := #[sl, x], argTypes := #[t, t] }) (z : Value) (bytes : Nat) (ht : P.underlying t = some (.slice e)) (hinfo : (P.info? e).map (fun i => (i.zero, i.size, i.bytes)) = some (some z, s, bytes))
    (hzs : z.cells.size = s) (hs0 : 0 < s) (hf : ∀ x, (f x).length = s) (hf1 : ∀ x, ∀ u ∈ f x, u.oneCell' = true) (M : List α) (A : Option Addr) (m c : Nat)
    (hs : a.eval sl = .slice A0 n cap0) (hx : a.eval x = .slice A m c) (hsl : Sl s f w A m M) (hn : L.length = n) (hb : (n + m) * bytes ≤ 140737488355328) (hb1 : 1 ≤ bytes)
    (k : ∀ A' cap' w', Mem W w' (H.set i (.row e s f W.heap.size (.slice A' (n + m) cap') (L ++ M))) → (∀ T B, e ≠ T → B ≤ W.heap.size → Chg T B w w' (Value.slice A0 n cap0).ownBlock) → wpList P ops Q rest (a.put o.dst (.slice A' (n + m) cap')) w') :
    wpList P ops Q (o :: rest) a w := by
  refine wpList_plain hgd fun K hK => ?_
  obtain ⟨A', cap', w', hr, hM, hA⟩ := h.catC_run i hi (P := P) o.type t z bytes ht hinfo hzs hs0 hf hf1 M A m c hsl hn hb hb1
  unfold Oper.wp execOp
  simp only [ho, resolve, invoke, builtin, Sem.run_bind, Sem.run_pure, Result.andThen_ok, List.map_toArray, List.map_cons, List.map_nil, hs, hx, hr]
  exact hK _ _ (k A' cap' w' hM hA)
theorem insR_len (x : ErR) (L : List ErR) : (insR x L).length = L.length + 1 := by
  have := before_le x.s (ers L)
  rw [ers_len] at this
  unfold insR
  simp only [List.length_append, List.length_take, List.length_drop, List.length_singleton]
  omega
theorem RcvR.mk {B b kn : Nat} {x : Rcv × List Seg × Bool} {w w' : World} {A DA : Option Addr} {n cap dn dc : Nat} {RE : List ErR} {RD : List SR} {ok : Bool} (hx : x = (⟨b, kn, ers RE⟩, gs RD, ok))
    (h1 : Sl 4 erC w' A n RE) (h2 : Ers B w' RE) (h3 : n ≤ cap) (h4 : cap ≤ maxLen) (h5 : Sl 3 segC w' DA dn RD) (h6 : Sgs B w' RD) (h7 : Held w w') : RcvR B x w (.returned (.tuple #[.agg #[.int .u64 b, .int .u64 kn, .slice A n cap], .slice DA dn dc, .bool ok])) w' := by
  subst hx; exact ⟨A, n, cap, DA, dn, dc, RE, RD, rfl, rfl, rfl, h1, h2, h3, h4, h5, h6, h7⟩
set_option maxHeartbeats 8000000 in
theorem taker_any (b kn : Nat) (A : Option Addr) (n cap : Nat) (L : List ErR) (s : ByteArray) (B : Nat) (w : World) (hB : B ≤ w.heap.size) (h : Sl 4 erC w A n L) (hg : Ers B w L) (hn : n ≤ 1000000) (hcap : n ≤ cap) (hcm : cap ≤ maxLen) (hs : (s.size : Int) ≤ 1000000000000) :
    Calls Tryz.prog 27 #[.agg #[.int .u64 b, .int .u64 kn, .slice A n cap], .string s] w (RcvR B (take ⟨b, kn, ers L⟩ s.data.toList) w) := by
  have HBB := Lib.hid hB
  clear hB
  have HS := Lib.hid h
  have HG := Lib.hid hg
  have HCN := Lib.hid hcap
  have HCM := Lib.hid hcm
  have HL : Is L.length n := ⟨h.1⟩
  have hn2 : (n : Int) ≤ 1000000 := by omega
  have hql : (ers L).length = n := by rw [ers_len]; exact h.1
  have hol := opened_len s.data.toList 68
  have hon := opened_lt s.data.toList 68
  have HO := fun w => openedr_any s 68 hs w
  have HP : Is (take ⟨b, kn, ers L⟩ s.data.toList) (take1 ⟨b, kn, ers L⟩ (opened s.data.toList 68)) := ⟨rfl⟩
  obtain ⟨p, hp⟩ : ∃ p, take ⟨b, kn, ers L⟩ s.data.toList = p := ⟨_, rfl⟩
  obtain ⟨o, ho⟩ : ∃ o, opened s.data.toList 68 = o := ⟨_, rfl⟩
  rw [ho] at HO HP hol hon
  obtain ⟨on, orest, ook⟩ := o
  have HO1 := Lib.hid HO
  rw [hp] at HP ⊢
  rw [len_eq] at hol
  simp only at hol hon
  have HPX : Is p (if (!ook || !receiving ⟨b, kn, ers L⟩ || decide (b + 8 ≤ on)) = true then (⟨b, kn, ers L⟩, [], false) else take3 ⟨b, kn, ers L⟩ on (unbody orest)) := ⟨HP.out⟩
  have hsq : receiving ⟨b, kn, ers L⟩ = true → n ≤ 7 ∧ b ≤ 4611686018427387904 ∧ (ers L).Pairwise fun x y => x.s < y.s := fun e => by
    unfold receiving at e
    simp only [Bool.and_eq_true, decide_eq_true_eq] at e
    rw [← hql]; exact ⟨e.1.2, e.1.1.2, (asc_pair e.2).1⟩
  have HSQ := Lib.hid hsq
  obtain ⟨sv, hsv⟩ : ∃ sv, receiving ⟨b, kn, ers L⟩ = sv := ⟨_, rfl⟩
  have M0 := Lib.hid (((Mem.start w).alloc' (b := w.heap.size) rfl #[.int .u64 b, .int .u64 kn, .slice A n cap] 31).alloc' (b := w.heap.size + 1) (by simp) #[.int .u64 0, .int .u64 0, .slice none 0 0] 31)
  have HSN := Lib.hid fun (w' : World) (k : Held w w') => receiver_any b kn A n cap L B w' (h.held k) (hg.held k) hn
  rw [hsv] at HPX HSQ
  simp only [hsv] at HSN
  clear hp ho HO HP hsv h hg hql hsq hcap hcm
  go_enter Tryz.func27, Tryz.ntmps27
  go_wp2_with fail
  refine (HO1.out _).mono ?_
  rintro e w3 ⟨rs, rfl, hrs, h3⟩
  dsimp only at hrs ⊢
  have HRS : Is rs.data.toList orest := ⟨hrs⟩
  have hrl : rs.size = orest.length := by rw [← hrs, len_eq]
  have M3 := Lib.hid (M0.out.keep h3)
  clear h3 HO1 M0 hrs
  obtain ⟨⟨c0, c1, c2⟩, _, cl⟩ := M3.out.box3 0 rfl
  go_wp2_with fail
  refine (HSN.out _ M3.out.held).mono ?_
  rintro e w4 ⟨rfl, h4⟩
  have M4 := Lib.hid (M3.out.keep h4)
  clear h4 HSN M3 c0 c1 c2 cl
  cases sv
  · have HP2 : Is p (⟨b, kn, ers L⟩, [], false) := ⟨by rw [HPX.out, if_pos (by simp)]⟩
    clear HPX
    obtain ⟨⟨c0, c1, c2⟩, _, cl⟩ := M4.out.box3 0 rfl
    obtain ⟨_, ⟨rf0, rf1, rf2⟩, rl⟩ := M4.out.box3 1 rfl
    have MF := Lib.hid (M4.out.put3 1 rfl (.int .u64 b) (.int .u64 kn) (.slice A n cap))
    go_wp2
    refine bodyPost_ret (Bx.res_ctt Tryz.results27 rfl (rcv_load (MF.out.blk 1 rfl))) rfl ?_
    exact RcvR.mk HP2.out (HS.out.held MF.out.held) (HG.out.held MF.out.held) HCN.out HCM.out (Sl.nil _ _) (Sgs.nil _ _) MF.out.held
  cases ook
  · have HP2 : Is p (⟨b, kn, ers L⟩, [], false) := ⟨HPX.out⟩
    clear HPX
    obtain ⟨⟨c0, c1, c2⟩, _, cl⟩ := M4.out.box3 0 rfl
    obtain ⟨_, ⟨rf0, rf1, rf2⟩, rl⟩ := M4.out.box3 1 rfl
    have MF := Lib.hid (M4.out.put3 1 rfl (.int .u64 b) (.int .u64 kn) (.slice A n cap))
    go_wp2
    refine bodyPost_ret (Bx.res_ctt Tryz.results27 rfl (rcv_load (MF.out.blk 1 rfl))) rfl ?_
    exact RcvR.mk HP2.out (HS.out.held MF.out.held) (HG.out.held MF.out.held) HCN.out HCM.out (Sl.nil _ _) (Sgs.nil _ _) MF.out.held
  obtain ⟨hn7, hb62, hpw⟩ := HSQ.out rfl
  have HPW := Lib.hid hpw
  clear hpw
  have HPY : Is p (if b + 8 ≤ on then (⟨b, kn, ers L⟩, [], false) else take3 ⟨b, kn, ers L⟩ on (unbody orest)) := ⟨by rw [HPX.out]; simp⟩
  have HD := Lib.hid fun w => unbodyr_any rs (by omega) w
  rw [HRS.out] at HD
  obtain ⟨u, hu⟩ : ∃ u, unbody orest = u := ⟨_, rfl⟩
  rw [hu] at HD HPY
  obtain ⟨⟨gf, gk, ges⟩, gc⟩ := u
  clear HPX hu HRS
  go_wp2_with fail
  refine (HD.out _).mono ?_
  rintro e w5 ⟨GA, gn, gcap, rfl, hgs, h5⟩
  dsimp only at hgs ⊢
  have M5 := Lib.hid ((M4.out.keep h5).alloc #[.int .u64 gf, .int .u64 gk, .slice GA gn gcap] 25)
  have G5 := Lib.hid ((hgs B).held ((Held.refl w5).alloc (.cells #[.int .u64 gf, .int .u64 gk, .slice GA gn gcap] 25)))
  clear h5 hgs HD M4
  by_cases t2 : ¬ gc = 0
  · have t2b : (gc == 0) = false := by rw [beq_eq_false_iff_ne]; exact t2
    have t2c : (gc != 0) = true := by rw [bne, t2b]; rfl
    have HPX : Is p (⟨b, kn, ers L⟩, [], false) := ⟨by rw [HPY.out]; split; rfl; unfold take3; rw [if_pos t2]⟩
    clear HPY HPW HSQ t2
    have HP2 : Is p (⟨b, kn, ers L⟩, [], false) := ⟨HPX.out⟩
    clear HPX
    obtain ⟨⟨c0, c1, c2⟩, _, cl⟩ := M5.out.box3 0 rfl
    obtain ⟨_, ⟨rf0, rf1, rf2⟩, rl⟩ := M5.out.box3 1 rfl
    have MF := Lib.hid (M5.out.put3 1 rfl (.int .u64 b) (.int .u64 kn) (.slice A n cap))
    go_wp2
    refine bodyPost_ret (Bx.res_ctt Tryz.results27 rfl (rcv_load (MF.out.blk 1 rfl))) rfl ?_
    exact RcvR.mk HP2.out (HS.out.held MF.out.held) (HG.out.held MF.out.held) HCN.out HCM.out (Sl.nil _ _) (Sgs.nil _ _) MF.out.held
  have t2 := Decidable.not_not.1 t2
  subst t2
  by_cases t1 : b + 8 ≤ on
  · have HPX : Is p (⟨b, kn, ers L⟩, [], false) := ⟨by rw [HPY.out, if_pos t1]⟩
    have t3 : decide ((b : Int) ≤ on) = true := decide_eq_true (by omega)
    have t3n : (b : Int) ≤ on := by omega
    obtain ⟨gone, hgone⟩ : ∃ g, on - b = g := ⟨_, rfl⟩
    have hg1 : (on : Int) - b = (gone : Int) := by omega
    have hgw : IntKind.u64.wrap ((on : Int) - b) = (gone : Int) := by rw [IntWalk.u64_in _ (by omega)]; exact hg1
    have t4 : (8 : Int) ≤ gone := by omega
    have t4d : decide ((8 : Int) ≤ gone) = true := decide_eq_true t4
    clear HPY HPW HSQ hgone t1
    have HP2 : Is p (⟨b, kn, ers L⟩, [], false) := ⟨HPX.out⟩
    clear HPX
    obtain ⟨⟨c0, c1, c2⟩, _, cl⟩ := M5.out.box3 0 rfl
    obtain ⟨_, ⟨rf0, rf1, rf2⟩, rl⟩ := M5.out.box3 1 rfl
    have MF := Lib.hid (M5.out.put3 1 rfl (.int .u64 b) (.int .u64 kn) (.slice A n cap))
    go_wp2
    refine bodyPost_ret (Bx.res_ctt Tryz.results27 rfl (rcv_load (MF.out.blk 1 rfl))) rfl ?_
    exact RcvR.mk HP2.out (HS.out.held MF.out.held) (HG.out.held MF.out.held) HCN.out HCM.out (Sl.nil _ _) (Sgs.nil _ _) MF.out.held
  have HPZ : Is p (if (decide (on < b) || has on (ers L)) = true then (⟨b, kn, ers L⟩, [], true) else ((drain b kn (ins ⟨on, gf, gk, ges⟩ (ers L))).1, (drain b kn (ins ⟨on, gf, gk, ges⟩ (ers L))).2, true)) := ⟨by rw [HPY.out, if_neg t1]; unfold take3; rw [if_neg (by simp)]⟩
  clear HPY
  by_cases t5 : on < b
  · have HPX : Is p (⟨b, kn, ers L⟩, [], true) := ⟨by rw [HPZ.out, if_pos (by simp [t5])]⟩
    have t3 : decide ((b : Int) ≤ on) = false := decide_eq_false (by omega)
    have t3n : ¬ (b : Int) ≤ on := by omega
    have t4 : (on : Int) < b := by omega
    have t4d : decide ((on : Int) < b) = true := decide_eq_true t4
    clear HPZ HPW HSQ
    have HP2 : Is p (⟨b, kn, ers L⟩, [], true) := ⟨HPX.out⟩
    clear HPX
    obtain ⟨⟨c0, c1, c2⟩, _, cl⟩ := M5.out.box3 0 rfl
    obtain ⟨_, ⟨rf0, rf1, rf2⟩, rl⟩ := M5.out.box3 1 rfl
    have MF := Lib.hid (M5.out.put3 1 rfl (.int .u64 b) (.int .u64 kn) (.slice A n cap))
    go_wp2
    refine bodyPost_ret (Bx.res_ctt Tryz.results27 rfl (rcv_load (MF.out.blk 1 rfl))) rfl ?_
    exact RcvR.mk HP2.out (HS.out.held MF.out.held) (HG.out.held MF.out.held) HCN.out HCM.out (Sl.nil _ _) (Sgs.nil _ _) MF.out.held
  have t3 : decide ((b : Int) ≤ on) = true := decide_eq_true (by omega)
  have t3n : (b : Int) ≤ on := by omega
  obtain ⟨gone, hgone⟩ : ∃ g, on - b = g := ⟨_, rfl⟩
  have hg1 : (on : Int) - b = (gone : Int) := by omega
  have hgw : IntKind.u64.wrap ((on : Int) - b) = (gone : Int) := by rw [IntWalk.u64_in _ (by omega)]; exact hg1
  have t4 : ¬ (8 : Int) ≤ gone := by omega
  have t4d : decide ((8 : Int) ≤ gone) = false := decide_eq_false t4
  have t6 : ¬ (on : Int) < b := by omega
  have t6d : decide ((on : Int) < b) = false := decide_eq_false t6
  have t5n : decide (on < b) = false := decide_eq_false t5
  have HPX : Is p (if has on (ers L) = true then (⟨b, kn, ers L⟩, [], true) else ((drain b kn (ins ⟨on, gf, gk, ges⟩ (ers L))).1, (drain b kn (ins ⟨on, gf, gk, ges⟩ (ers L))).2, true)) := ⟨by rw [HPZ.out, t5n]; simp⟩
  clear HPZ t5n t1 t5 hgone
  obtain ⟨⟨c0, c1, c2⟩, _, cl⟩ := M5.out.box3 0 rfl
  go_wp2_with fail
  clear t3 t3n hg1 hgw t4 t4d t6 t6d c0 c1 c2 cl
  go_loopw [12] (fun i wr => ∃ q : Nat, i = .int .i64 (q : Int) ∧ q ≤ n ∧ (∀ j (h : j < (ers L).length), j < q → ¬ (ers L)[j].s = on) ∧ Sg B wr ⟨gf, gk, GA, gn, gcap, ges⟩ ∧ Mem w wr [.box w.heap.size #[.int .u64 b, .int .u64 kn, .slice A n cap] 31, .box (w.heap.size + 1) #[.int .u64 0, .int .u64 0, .slice none 0 0] 31, .box w5.heap.size #[.int .u64 gf, .int .u64 gk, .slice GA gn gcap] 25]) (fun i _ => n - (RowKit.intOf i).toNat)
  case atStart => exact ⟨0, rfl, Nat.zero_le _, fun j h hj => absurd hj (Nat.not_lt_zero j), G5.out, M5.out⟩
  case round =>
    obtain ⟨q, rfl, hq, hlo, hG, hM⟩ := hrel
    have HLO := Lib.hid hlo
    have G6 := Lib.hid hG
    have M6 := Lib.hid hM
    clear hlo hG hM M5 G5
    obtain ⟨⟨c0, c1, c2⟩, _, cl⟩ := M6.out.box3 0 rfl
    by_cases hqn : q < n
    · obtain ⟨b1, off, s', f', kn', xA, xn, xc, es', rfl, hb1, hx, x0, x1, x2, x3⟩ := erAt HS.out M6.out.held (k := q) hqn
      have hql : q < (ers L).length := by rw [ers_len, HL.out]; exact hqn
      have hxe : (ers L)[q].s = s' := by
        obtain ⟨h1, h2⟩ := List.getElem?_eq_some_iff.1 hx
        exact congrArg Er.s ((List.getElem_map ErR.e).trans (congrArg ErR.e h2))
      have z1 : decide ((q : Int) < n) = true := decide_eq_true (by omega)
      have z2 : (q : Int) < n := by omega
      have z3 : (0 : Int) ≤ q := by omega
      by_cases hs' : s' = on
      · have y1 : ((s' : Int) == on) = true := by rw [beq_iff_eq]; omega
        have y2 : (s' == on) = true := by rw [beq_iff_eq]; exact hs'
        have hh : has on (ers L) = true := by
          unfold has
          rw [List.any_eq_true]
          exact ⟨(ers L)[q], List.getElem_mem hql, by rw [hxe]; exact decide_eq_true hs'⟩
        have HP2 : Is p (⟨b, kn, ers L⟩, [], true) := ⟨by rw [HPX.out, if_pos hh]⟩
        clear HPX HPW HSQ hx hxe hql hh hs' HLO x1 x2 x3
        obtain ⟨_, ⟨rf0, rf1, rf2⟩, rl⟩ := M6.out.box3 1 rfl
        have MF := Lib.hid (M6.out.put3 1 rfl (.int .u64 b) (.int .u64 kn) (.slice (some ⟨b1, off, none⟩) n cap))
        go_wp2
        refine bodyPost_ret (Bx.res_ctt Tryz.results27 rfl (rcv_load (MF.out.blk 1 rfl))) rfl ?_
        exact RcvR.mk HP2.out (HS.out.held MF.out.held) (HG.out.held MF.out.held) HCN.out HCM.out (Sl.nil _ _) (Sgs.nil _ _) MF.out.held
      · have y1 : ((s' : Int) == on) = false := by rw [beq_eq_false_iff_ne]; omega
        have y2 : (s' == on) = false := by rw [beq_eq_false_iff_ne]; exact hs'
        have HLO2 : Hid (∀ j (h : j < (ers L).length), j < q + 1 → ¬ (ers L)[j].s = on) := fun j h hj => by
          by_cases e : j = q
          · subst e; rw [hxe]; exact hs'
          · exact HLO.out j h (by omega)
        clear hx hxe hql hs' HLO x1 x2 x3
        go_wp2
        go_roundw
        case rel => exact ⟨q + 1, by go_num, by omega, HLO2.out, G6.out, M6.out⟩
        case measure => (simp [RowKit.intOf]) <;> omega
    · obtain rfl : q = n := by omega
      have z1 : decide ((q : Int) < q) = false := decide_eq_false (by omega)
      have hh : has on (ers L) = false := by
        unfold has
        rw [List.any_eq_false]
        intro y hy
        obtain ⟨j, hj, rfl⟩ := List.getElem_of_mem hy
        have := HLO.out j hj (by rw [ers_len, HL.out] at hj; exact hj)
        simpa using this
      have HPI : Is p ((drain b kn (ins ⟨on, gf, gk, ges⟩ (ers L))).1, (drain b kn (ins ⟨on, gf, gk, ges⟩ (ers L))).2, true) := ⟨by rw [HPX.out, hh]; simp⟩
      clear hh HPX HLO
      have HIN := Lib.hid fun (w' : World) (k : Held w w') => insert_any A q cap L on gf gk GA gn gcap ges w' (HS.out.held k) (fun e => by have := HS.out.2; rcases this with h0 | ⟨b1, off, e2, _⟩; exact h0; rw [e] at e2; cases e2) (by omega) HCN.out HCM.out
      obtain ⟨⟨s0, s1, s2⟩, _, sl⟩ := M6.out.box3 2 rfl
      go_wp2_with fail
      refine (HIN.out _ M6.out.held).mono ?_
      rintro e w7 ⟨A7, n7, cap7, rfl, o7, h7⟩
      dsimp only
      obtain ⟨E0, hE0⟩ : ∃ E0, insR (⟨on, gf, gk, GA, gn, gcap, ges⟩ : ErR) L = E0 := ⟨_, rfl⟩
      have hE0l : E0.length = q + 1 := by rw [← hE0, insR_len, HL.out]
      have hE0e : ers E0 = ins ⟨on, gf, gk, ges⟩ (ers L) := by rw [← hE0, insR_ers]; rfl
      have hE0s : Ers B w7 E0 := fun y hy => by
        rw [← hE0] at hy
        rcases insR_mem hy with rfl | hy
        · exact ⟨G6.out.held h7, hon⟩
        · exact ((HG.out.held M6.out.held).held h7) y hy
      rw [hE0] at o7
      obtain rfl : n7 = q + 1 := by rw [← hE0l]; exact (Own.reads erC_len o7).2.1
      have HEL : Is E0.length (q + 1) := ⟨hE0l⟩
      have HP6 : Is p ((drain b kn (ers E0)).1, (drain b kn (ers E0)).2, true) := ⟨by rw [hE0e]; exact HPI.out⟩
      have M7 := Lib.hid (M6.out.own h7 o7)
      have M8 := Lib.hid ((((M7.out.put 0 rfl 2 (.slice A7 (q + 1) cap7)).nilRow (e := 25) (s := 3) (f := segC)).sel [0, 1, 3, 4] (by decide) : Mem w _ [.box w.heap.size #[.int .u64 b, .int .u64 kn, .slice A7 (q + 1) cap7] 31, .box (w.heap.size + 1) #[.int .u64 0, .int .u64 0, .slice none 0 0] 31, .row 72 4 erC w.heap.size (.slice A7 (q + 1) cap7) E0, .row 25 3 segC w.heap.size (.slice none 0 0) []]))
      have S8 := Lib.hid (Ers.put1 hE0s (Blk.of M7.out 0 rfl (by decide) HBB.out) 2 (.slice A7 (q + 1) cap7))
      clear hE0 hE0l hE0e hE0s o7 h7 HPI HIN G6 M6 c0 c1 c2 cl s0 s1 s2 sl
      obtain ⟨⟨c0, c1, c2⟩, ⟨f0, f1, f2⟩, hl0⟩ := M7.out.box3 0 rfl
      clear M7
      go_wp2
      clear c0 c1 c2 f0 f1 f2 hl0 z1
      go_loopw [13] (fun v wr => ∃ (E : List ErR) (D : List SR) (nx k m ce : Nat) (AE : Option Addr), Dr b kn (ers E0) nx k (ers E) (gs D) ∧ E.length = m ∧ D.length + m = q + 1 ∧ nx = b + D.length ∧ slLen v = D.length ∧ Mem w wr [.box w.heap.size #[.int .u64 nx, .int .u64 k, .slice AE m ce] 31, .box (w.heap.size + 1) #[.int .u64 0, .int .u64 0, .slice none 0 0] 31, .row 72 4 erC w.heap.size (.slice AE m ce) E, .row 25 3 segC w.heap.size v D] ∧ Ers B wr E ∧ Sgs B wr D) (fun v _ => q + 1 - slLen v)
      case atStart => exact ⟨E0, [], b, kn, q + 1, cap7, A7, Dr.start _ _ _, HEL.out, by simp, rfl, rfl, M8.out, S8.out, Sgs.nil _ _⟩
      case round =>
        obtain ⟨E, D, nx, k, m, ce, AE, hdr, hEm, hDm, hnx, hsl, hM, hE, hD⟩ := hrel
        obtain ⟨DA, dc, rfl, hdc, _⟩ := (hM.row 3 rfl).shape
        have HDR := Lib.hid hdr
        have HEM : Is E.length m := ⟨hEm⟩
        have M := Lib.hid hM
        have SE := Lib.hid hE
        have SD := Lib.hid hD
        obtain ⟨dl, hdl⟩ : ∃ dl, D.length = dl := ⟨_, rfl⟩
        have HDL : Is D.length dl := ⟨hdl⟩
        rw [hdl] at hDm hnx hdc M ⊢
        have HNX : Is nx (b + dl) := ⟨hnx⟩
        have hnx1 : (nx : Int) + 1 ≤ 18446744073709551615 := by omega
        have hnx0 : (0 : Int) ≤ (nx : Int) + 1 := by omega
        have HP7 : Is p ((drain b kn (ers E0)).1, (drain b kn (ers E0)).2, true) := ⟨HP6.out⟩
        have hml : m ≤ 8 := by omega
        have HDM := Lib.hid hDm
        clear hdr hEm hsl hM hE hD hdl hnx M8 S8 hDm HP6 hb62
        obtain ⟨⟨c0, c1, c2⟩, _, hl0⟩ := M.out.box3 0 rfl
        by_cases hm0 : m = 0
        · have hmp : ¬ (0 : Int) < m := by omega
          have hmd : decide ((0 : Int) < m) = false := decide_eq_false hmp
          have hST : Hid (drain b kn (ers E0) = (⟨nx, k, ers E⟩, gs D)) := HDR.out.stop fun x l e => by
            have := congrArg List.length e
            rw [ers_len, HEM.out, hm0] at this
            simp at this
          have k0 := cell_regrown c0
          have k2 := cell_regrown c2
          clear HDR
          subst hm0
          go_upto_region 16 with fail
          refine wp_region_quiet_below (by kernel_rfl) (by kernel_rfl) ?_
          repeat (go_big_quiet_step (fail))
          refine wpQuiet_nil ?_
          intro w8 hw'
          obtain ⟨⟨dq, osq⟩, hw''⟩ := hw'
          have h8 : Held wr w8 := by rw [hw'']; exact below_regrown wr dq osq
          have MX := Lib.hid (M.out.keep h8)
          have SEX := Lib.hid (SE.out.held h8)
          have SDX := Lib.hid (SD.out.held h8)
          clear hw'' h8 M SE SD k0 k2 c0 c1 c2 hl0
          obtain ⟨⟨c0, c1, c2⟩, _, cl⟩ := MX.out.box3 0 rfl
          obtain ⟨_, ⟨rf0, rf1, rf2⟩, rl⟩ := MX.out.box3 1 rfl
          go_wp2
          have MF := Lib.hid (MX.out.put3 1 rfl (.int .u64 nx) (.int .u64 k) (.slice AE 0 ce))
          refine bodyPost_ret (Bx.res_ctt Tryz.results27 rfl (rcv_load (MF.out.blk 1 rfl))) rfl ?_
          obtain ⟨_, _, hsh, hsc, hsm⟩ := (MF.out.row 2 rfl).shape
          injection hsh with _ _ hsh
          refine RcvR.mk (by rw [HP7.out, hST.out]) (Own.reads erC_len (MF.out.row 2 rfl)).1 (SEX.out.put3 (Blk.of MX.out 1 rfl (by decide) HBB.out) _ _ _) (Own.reads erC_len (MF.out.row 2 rfl)).2.2 (by rw [hsh]; exact hsm) (Own.reads segC_len (MF.out.row 3 rfl)).1 (SDX.out.put3 (Blk.of MX.out 1 rfl (by decide) HBB.out) _ _ _) MF.out.held
        have hmp : (0 : Int) < m := by omega
        have hmd : decide ((0 : Int) < m) = true := decide_eq_true hmp
        obtain ⟨x, E', rfl⟩ : ∃ x E', E = x :: E' := by
          cases E with
          | nil => exact absurd HEM.out.symm hm0
          | cons x E' => exact ⟨x, E', rfl⟩
        obtain ⟨xs, xf, xk, XA, xn, xc, xes⟩ := x
        have hm1 : 0 < m := by omega
        obtain ⟨g, x, rfl, hge, hgl2, hx, hxc⟩ := M.out.slot 2 rfl erC_len (by decide) (k := 0) (by rw [HEM.out]; exact hm1)
        simp only [List.getElem?_cons_zero, Option.some.injEq] at hx
        subst hx
        have x0 : wr.cell? ⟨g, 0, none⟩ = some (.int .u64 xs) := by have := (hxc 0 (by decide)).2 _ rfl; simpa using this
        have x1 : wr.cell? ⟨g, 1, none⟩ = some (.int .u64 xf) := by have := (hxc 1 (by decide)).2 _ rfl; simpa using this
        have x2 : wr.cell? ⟨g, 2, none⟩ = some (.int .u64 xk) := by have := (hxc 2 (by decide)).2 _ rfl; simpa using this
        have x3 : wr.cell? ⟨g, 3, none⟩ = some (.slice XA xn xc) := by have := (hxc 3 (by decide)).2 _ rfl; simpa using this
        clear hxc hge
        have k0 := cell_regrown c0
        have k2 := cell_regrown c2
        have kx := cell_regrown x0
        by_cases hs : ¬ xs = nx
        · have hsb : ((xs : Int) == nx) = false := by rw [beq_eq_false_iff_ne]; omega
          have hsc : (xs == nx) = false := by rw [beq_eq_false_iff_ne]; exact hs
          have hST : Hid (drain b kn (ers E0) = (⟨nx, k, ers (⟨xs, xf, xk, XA, xn, xc, xes⟩ :: E')⟩, gs D)) := HDR.out.stop fun x l e => by
            injection e with e _
            rw [← e]; exact hs
          clear HDR hs hm0
          go_upto_region 16 with fail
          refine wp_region_quiet_below (by kernel_rfl) (by kernel_rfl) ?_
          repeat (go_big_quiet_step (fail))
          refine wpQuiet_nil ?_
          intro w8 hw'
          obtain ⟨⟨dq, osq⟩, hw''⟩ := hw'
          have h8 : Held wr w8 := by rw [hw'']; exact below_regrown wr dq osq
          have MX := Lib.hid (M.out.keep h8)
          have SEX := Lib.hid (SE.out.held h8)
          have SDX := Lib.hid (SD.out.held h8)
          clear hw'' h8 M SE SD k0 k2 kx c0 c1 c2 hl0 x0 x1 x2 x3
          obtain ⟨⟨c0, c1, c2⟩, _, cl⟩ := MX.out.box3 0 rfl
          obtain ⟨_, ⟨rf0, rf1, rf2⟩, rl⟩ := MX.out.box3 1 rfl
          go_wp2
          have MF := Lib.hid (MX.out.put3 1 rfl (.int .u64 nx) (.int .u64 k) (.slice (some ⟨g, 0, none⟩) m ce))
          refine bodyPost_ret (Bx.res_ctt Tryz.results27 rfl (rcv_load (MF.out.blk 1 rfl))) rfl ?_
          obtain ⟨_, _, hsh, hsc, hsm⟩ := (MF.out.row 2 rfl).shape
          injection hsh with _ _ hsh
          refine RcvR.mk (by rw [HP7.out, hST.out]) (Own.reads erC_len (MF.out.row 2 rfl)).1 (SEX.out.put3 (Blk.of MX.out 1 rfl (by decide) HBB.out) _ _ _) (Own.reads erC_len (MF.out.row 2 rfl)).2.2 (by rw [hsh]; exact hsm) (Own.reads segC_len (MF.out.row 3 rfl)).1 (SDX.out.put3 (Blk.of MX.out 1 rfl (by decide) HBB.out) _ _ _) MF.out.held
        have hs := Decidable.not_not.1 hs
        subst hs
        have hsb : ((xs : Int) == xs) = true := by simp
        clear hm0
        obtain ⟨m1, hm1e⟩ : ∃ m1, m = m1 + 1 := ⟨m - 1, by omega⟩
        subst hm1e
        have hEl : E'.length = m1 := by have := HEM.out; rw [List.length_cons] at this; omega
        have HEL2 : Is E'.length m1 := ⟨hEl⟩
        clear hEl
        go_upto_region 16 with fail
        refine wp_region_quiet_below (by kernel_rfl) (by kernel_rfl) ?_
        repeat (go_big_quiet_step (fail))
        refine wpQuiet_nil ?_
        intro w8 hw'
        obtain ⟨⟨dq, osq⟩, hw''⟩ := hw'
        have h8 : Held wr w8 := by rw [hw'']; exact below_regrown wr dq osq
        have M9 := Lib.hid ((M.out.keep h8).alloc #[.int .u64 xf, .int .u64 xk, .slice XA xn xc] 25)
        have h8b := (Held.refl w8).alloc (.cells #[.int .u64 xf, .int .u64 xk, .slice XA xn xc] 25)
        have SE9 := Lib.hid ((SE.out.held h8).held h8b)
        have SD9 := Lib.hid ((SD.out.held h8).held h8b)
        have SX := Lib.hid (SE9.out ⟨xs, xf, xk, XA, xn, xc, xes⟩ (by simp)).1
        obtain ⟨y0, y1, y2, y3⟩ : w8.cell? ⟨g, 0, none⟩ = some (.int .u64 xs) ∧ w8.cell? ⟨g, 1, none⟩ = some (.int .u64 xf) ∧ w8.cell? ⟨g, 2, none⟩ = some (.int .u64 xk) ∧ w8.cell? ⟨g, 3, none⟩ = some (.slice XA xn xc) := ⟨h8.cell x0, h8.cell x1, h8.cell x2, h8.cell x3⟩
        have e0 := h8.cell c0
        have e1 := h8.cell c1
        have e2 := h8.cell c2
        have hgl3 : g < w8.heap.size := Nat.lt_of_lt_of_le hgl2 h8.le
        have hgn : ¬ g = w8.heap.size := by omega
        have htl : w.heap.size < w8.heap.size := Nat.lt_of_lt_of_le hl0 h8.le
        have htn : ¬ w.heap.size = w8.heap.size := by omega
        have ME := Lib.hid (M9.out.emptyRow (e := 72) (s := 4) (f := erC) (b := w8.heap.size + 1) (by simp))
        have hSlE := (Own.reads erC_len (M9.out.row 2 rfl)).1
        have hce := (Own.reads erC_len (M9.out.row 2 rfl)).2.2
        obtain ⟨i0, hi0, hz0, hz1, hz2⟩ := info_parts info_er
        obtain ⟨AF, hF, hSlF⟩ := cut_from (P := Tryz.prog) Tryz.underlying29 hi0 hz1 hSlE ce 1 (by omega) hce
        rw [show ((1 : Nat) : Int) = 1 from rfl, Nat.add_sub_cancel] at hF
        rw [Nat.add_sub_cancel] at hSlF
        obtain ⟨c1', hc1'⟩ : ∃ c, ce - 1 = c := ⟨_, rfl⟩
        rw [hc1'] at hF
        obtain ⟨⟨d0, d1, d2⟩, ⟨df0, df1, df2⟩, hld⟩ := M9.out.box3 0 rfl
        have h9b := (Held.refl (w8.alloc (.cells #[.int .u64 xf, .int .u64 xk, .slice XA xn xc] 25))).alloc (.cells #[] 72)
        have HF := Lib.hid (show Sl 4 erC _ AF m1 E' from hSlF.held h9b)
        have SEt := Lib.hid (show Ers B _ E' from fun y hy => (SE9.out.held h9b) y (List.mem_cons_of_mem _ hy))
        have SDt := Lib.hid (SD9.out.held h9b)
        have SXt := Lib.hid (SX.out.held h9b)
        have HDM2 : Hid (dl + (m1 + 1) = q + 1) := HDM.out
        have hdl2 : dl ≤ 100 := by have := HDM2.out; omega
        have h1i : (1 : Int) ≤ (m1 + 1 : Nat) := by omega
        have h0i : (0 : Int) < (m1 + 1 : Nat) := by omega
        clear hw'' h8 h8b h9b M SE SD SE9 SD9 SX k0 k2 kx c0 c1 c2 hl0 x0 x1 x2 x3 hSlE hSlF hi0 hz0 hz1 hz2 hc1' hce HDM
        by_cases hk : ¬ xf = k
        · have hkb : ((xf : Int) == k) = false := by rw [beq_eq_false_iff_ne]; omega
          have hkc : (xf == k) = false := by rw [beq_eq_false_iff_ne]; exact hk
          have hkd : ((xf : Int) != k) = true := by rw [bne, hkb]; rfl
          have hST : Hid (drain b kn (ers E0) = (⟨xs, k, ers E'⟩, gs D)) := HDR.out.brk rfl hk
          clear HDR hk
          go_wp2_with (at_builtin; (refine wp_catC ME.out 5 rfl rfl _ _ _ rfl _ 48 Tryz.underlying29 info_er rfl (by decide) erC_len erC_one E' AF m1 c1' rfl rfl HF.out rfl (by omega) (by decide) ?_; intro A10 c10 w10 M10' kb; simp only [Nat.zero_add, List.nil_append] at M10' ⊢; have M10 := Lib.hid M10'; have K10 := Lib.hid kb; clear M10' kb d0 d1 d2 df0 df1 df2 hld e0 e1 e2 y0 y1 y2 y3; obtain ⟨⟨c0, c1, c2⟩, ⟨cf0, cf1, cf2⟩, cl⟩ := M10.out.box3 0 rfl; obtain ⟨_, ⟨rf0, rf1, rf2⟩, rl⟩ := M10.out.box3 1 rfl; obtain ⟨⟨s0, s1, s2⟩, _, sl⟩ := M10.out.box3 4 rfl; have hn04 := M10.out.ne 0 4 rfl rfl (by decide); have hn40 : ¬ w8.heap.size = w.heap.size := fun e => hn04 e.symm; have M11 := Lib.hid ((M10.out.put 0 rfl 2 (.slice A10 m1 c10)).skip (.cells #[.int .u64 xf, .int .u64 xk, .slice XA xn xc] 25))))
          have kk := K10.out 70 B (by decide) HBB.out
          have MX := Lib.hid (M10.out.put 0 rfl 2 (.slice A10 m1 c10))
          have SEX := Lib.hid ((SEt.out.chg kk).put1 (Blk.of M10.out 0 rfl (by decide) HBB.out) 2 (.slice A10 m1 c10))
          have SDX := Lib.hid ((SDt.out.chg kk).put1 (Blk.of M10.out 0 rfl (by decide) HBB.out) 2 (.slice A10 m1 c10))
          have MF := Lib.hid (MX.out.put3 1 rfl (.int .u64 xs) (.int .u64 k) (.slice A10 m1 c10))
          refine bodyPost_ret (Bx.res_ctt Tryz.results27 rfl (rcv_load (MF.out.blk 1 rfl))) rfl ?_
          obtain ⟨_, _, hsh, hsc, hsm⟩ := (MF.out.row 5 rfl).shape
          injection hsh with _ _ hsh
          exact RcvR.mk (by rw [HP7.out, hST.out]) (Own.reads erC_len (MF.out.row 5 rfl)).1 (SEX.out.put3 (Blk.of MX.out 1 rfl (by decide) HBB.out) _ _ _) (Own.reads erC_len (MF.out.row 5 rfl)).2.2 (by rw [hsh]; exact hsm) (Own.reads segC_len (MF.out.row 3 rfl)).1 (SDX.out.put3 (Blk.of MX.out 1 rfl (by decide) HBB.out) _ _ _) MF.out.held
        have hk := Decidable.not_not.1 hk
        subst hk
        have hkb : ((xf : Int) == xf) = true := by simp
        have hkd : ((xf : Int) != xf) = false := by simp
        have hDS := Lib.hid (HDR.out.step rfl rfl)
        clear HDR
        go_wp2_with (at_builtin; first
          | (refine wp_catC ME.out 5 rfl rfl _ _ _ rfl _ 48 Tryz.underlying29 info_er rfl (by decide) erC_len erC_one E' AF m1 c1' rfl rfl HF.out rfl (by omega) (by decide) ?_; intro A10 c10 w10 M10' kb; simp only [Nat.zero_add, List.nil_append] at M10' ⊢; have M10 := Lib.hid M10'; have K10 := Lib.hid kb; clear M10' kb d0 d1 d2 df0 df1 df2 hld e0 e1 e2 y0 y1 y2 y3; obtain ⟨⟨c0, c1, c2⟩, ⟨cf0, cf1, cf2⟩, cl⟩ := M10.out.box3 0 rfl; obtain ⟨_, ⟨rf0, rf1, rf2⟩, rl⟩ := M10.out.box3 1 rfl; obtain ⟨⟨s0, s1, s2⟩, _, sl⟩ := M10.out.box3 4 rfl; have hn04 := M10.out.ne 0 4 rfl rfl (by decide); have hn40 : ¬ w8.heap.size = w.heap.size := fun e => hn04 e.symm; have M11 := Lib.hid ((M10.out.put 0 rfl 2 (.slice A10 m1 c10)).skip (.cells #[.int .u64 xf, .int .u64 xk, .slice XA xn xc] 25)))
          | (refine Mem.wp_appC M11.out 3 rfl rfl _ _ _ rfl _ 40 Tryz.underlying26 info_seg rfl (by decide) segC_len segC_one ⟨xf, xk, XA, xn, xc, xes⟩ ⟨w10.heap.size, 0, none⟩ 1 rfl rfl (cells_new _ (by simp) _ _) dl HDL.out (by omega) (by decide) ?_; intro g4 cp4 w11 MB' kb; have MB := Lib.hid MB'; have KB := Lib.hid kb; clear c0 c1 c2 cf0 cf1 cf2 cl s0 s1 s2 sl; obtain ⟨⟨p0, p1, p2⟩, ⟨pf0, pf1, pf2⟩, pl⟩ := MB'.box3 0 rfl; obtain ⟨⟨s0, s1, s2⟩, _, sl⟩ := MB'.box3 4 rfl; clear MB' kb))
        have kk := K10.out 70 B (by decide) HBB.out
        have kk2 := KB.out 70 B (by decide) HBB.out
        have bk := Blk.of M10.out 0 rfl (by decide) HBB.out
        have hA := (Held.refl (w10.setCell ⟨w.heap.size, 2, none⟩ (.slice A10 m1 c10))).alloc (.cells #[.int .u64 xf, .int .u64 xk, .slice XA xn xc] 25)
        have SE11 := Lib.hid ((((SEt.out.chg kk).put1 bk 2 (.slice A10 m1 c10)).held hA).chg kk2)
        have SD11 := Lib.hid ((((SDt.out.chg kk).put1 bk 2 (.slice A10 m1 c10)).held hA).chg kk2)
        have SX11 := Lib.hid ((((SXt.out.chg kk).chg (bk.chg 2 (.slice A10 m1 c10))).held hA).chg kk2)
        have bk2 := Blk.of MB.out 0 rfl (by decide) HBB.out
        have MC := Lib.hid (MB.out.put 0 rfl 0 (.int .u64 ((xs + 1 : Nat) : Int)))
        have MD := Lib.hid (MC.out.put 0 rfl 1 (.int .u64 xk))
        have bk3 := Blk.of MC.out 0 rfl (by decide) HBB.out
        have SE13 := Lib.hid ((SE11.out.put1 bk2 0 (.int .u64 ((xs + 1 : Nat) : Int))).put1 bk3 1 (.int .u64 xk))
        have SD13 := Lib.hid (((SD11.out.snoc SX11.out).put1 bk2 0 (.int .u64 ((xs + 1 : Nat) : Int))).put1 bk3 1 (.int .u64 xk))
        go_roundw
        case rel =>
          refine ⟨E', D ++ [(⟨xf, xk, XA, xn, xc, xes⟩ : SR)], xs + 1, xk, m1, c10, A10, ?_, HEL2.out, ?_, ?_, ?_, ?_, SE13.out, SD13.out⟩
          · have := hDS.out
            unfold gs at this ⊢
            rw [List.map_append]
            exact this
          · rw [List.length_append, HDL.out, List.length_singleton]; have := HDM2.out; omega
          · rw [List.length_append, HDL.out, List.length_singleton]; have := HNX.out; omega
          · rw [List.length_append, HDL.out, List.length_singleton]; rfl
          · exact MD.out.sel [0, 1, 5, 3] (by decide)
        case measure =>
          have := HDM2.out
          simp only [slLen]; omega
end St
end Go.Proofs.YthpjbffhdaaibaaGreat

set_option linter.unusedVariables false
set_option linter.unusedSimpArgs false
set_option maxRecDepth 100000
namespace Go.Proofs.YthpjbffhdaaibaaGreat
open Go.RowKit Go.BigFrame Go.Sort Go.Lib
namespace St
open Enc Uv Lg Lgc Strs
theorem ers_nth {R1 R2 : List ErR} (h : ers R1 = ers R2) {k : Nat} {x y : ErR} (hx : R1[k]? = some x) (hy : R2[k]? = some y) : x.s = y.s ∧ x.x.f = y.x.f ∧ x.x.kn = y.x.kn ∧ x.x.es = y.x.es := by
  have e := congrArg (fun l => l[k]?) h
  simp only [ers, List.getElem?_map, hx, hy, Option.map_some] at e
  injection e with e
  simp only [ErR.e, SR.g] at e
  injection e with e1 e2
  injection e2 with e2 e3 e4
  exact ⟨e1, e2, e3, e4⟩
theorem one_seg {w : World} {b : Nat} {f kn : Nat} {A : Option Addr} {n cap : Nat} {es : List Ent} (h : w.heap[b]? = some (.cells #[.int .u64 f, .int .u64 kn, .slice A n cap] 25 (0, 0))) : Sl 3 segC w (some ⟨b, 0, none⟩) 1 [(⟨f, kn, A, n, cap, es⟩ : SR)] := by
  refine ⟨rfl, .inr ⟨b, 0, rfl, lt_of_heap h, fun k hk j v hv => ?_⟩⟩
  obtain rfl : k = 0 := by simp at hk; exact hk
  have := box_news h j v (by simpa [segC] using hv)
  rw [addr_add] at this
  simpa using this
set_option maxHeartbeats 40000000 in
theorem sameRcv_any (b kn : Nat) (A1 A2 : Option Addr) (n c1 c2 : Nat) (R1 R2 : List ErR) (B : Nat) (w : World) (h1 : Sl 4 erC w A1 n R1) (h2 : Sl 4 erC w A2 n R2) (s1 : Ers B w R1) (s2 : Ers B w R2) (hg : ers R1 = ers R2) (hn : n ≤ 1000000) :
    Calls Tryz.prog 31 #[.agg #[.int .u64 b, .int .u64 kn, .slice A1 n c1], .agg #[.int .u64 b, .int .u64 kn, .slice A2 n c2]] w (TrueTo w) := by
  have H1 := Lib.hid h1
  have H2 := Lib.hid h2
  have S1 := Lib.hid s1
  have S2 := Lib.hid s2
  have HG := Lib.hid hg
  have M := Lib.hid (((Mem.start w).alloc' (b := w.heap.size) rfl #[.int .u64 b, .int .u64 kn, .slice A1 n c1] 31).alloc' (b := w.heap.size + 1) (by simp) #[.int .u64 b, .int .u64 kn, .slice A2 n c2] 31)
  clear h1 h2 s1 s2 hg
  go_enter Tryz.func31, Tryz.ntmps31
  go_wp2
  go_loopw [5] (fun i wr => ∃ q : Nat, i = .int .i64 (q : Int) ∧ q ≤ n ∧ Mem w wr [.box w.heap.size #[.int .u64 b, .int .u64 kn, .slice A1 n c1] 31, .box (w.heap.size + 1) #[.int .u64 b, .int .u64 kn, .slice A2 n c2] 31]) (fun i _ => n - (RowKit.intOf i).toNat)
  case atStart => exact ⟨0, rfl, Nat.zero_le _, M.out⟩
  case round =>
    obtain ⟨q, rfl, hq, hM⟩ := hrel
    have M2 := Lib.hid hM
    clear hM M
    obtain ⟨⟨a0, a1, a2⟩, _, l1⟩ := M2.out.box3 0 rfl
    obtain ⟨⟨d0, d1, d2⟩, _, l2⟩ := M2.out.box3 1 rfl
    by_cases hlt : q < n
    · obtain ⟨b1, o1, xs, f, k, XA, xn, xc, es, rfl, _, hx, x0, x1, x2, x3⟩ := erAt H1.out M2.out.held (k := q) hlt
      obtain ⟨b2, o2, ys, f', k', YA, yn, yc, es', rfl, _, hy, y0, y1, y2, y3⟩ := erAt H2.out M2.out.held (k := q) hlt
      obtain ⟨e0, e1, e2, e3⟩ := ers_nth HG.out hx hy
      simp only at e0 e1 e2 e3
      subst e0 e1 e2 e3
      have z2 : (q : Int) < n := by omega
      have z3 : (0 : Int) ≤ q := by omega
      have G1 := Lib.hid (S1.out.at_ hx).1
      have G2 := Lib.hid (S2.out.at_ hy).1
      have HC := Lib.hid fun (w' : World) (k' : Held wr w') => And.intro (k'.cell a2) (And.intro (k'.cell d2) (And.intro (k'.cell x0) (And.intro (k'.cell x1) (And.intro (k'.cell x2) (And.intro (k'.cell x3) (And.intro (k'.cell y0) (And.intro (k'.cell y1) (And.intro (k'.cell y2) (k'.cell y3)))))))))
      have HCC := Lib.hid fun (w' : World) (a b c d : Nat) (k' : Held wr w') (ha : w'.heap[a]? = some (.cells #[.int .u64 f, .int .u64 k, .slice XA xn xc] 25 (0, 0))) (hb : w'.heap[b]? = some (.cells #[.int .u64 f, .int .u64 k, .slice YA yn yc] 25 (0, 0))) =>
        sameS_any (some ⟨a, 0, none⟩) (some ⟨b, 0, none⟩) 1 c d [(⟨f, k, XA, xn, xc, es⟩ : SR)] [(⟨f, k, YA, yn, yc, es⟩ : SR)] B w' (one_seg ha) (one_seg hb) (fun x hx => by rw [List.mem_singleton] at hx; subst hx; exact G1.out.held (M2.out.held.step k')) (fun x hx => by rw [List.mem_singleton] at hx; subst hx; exact G2.out.held (M2.out.held.step k')) rfl (by decide)
      have MA := Lib.hid (((M2.out.alloc #[.int .u64 f, .int .u64 k, .slice XA xn xc] 25).alloc' (b := wr.heap.size + 1) (by simp) #[.int .u64 f, .int .u64 k, .slice YA yn yc] 25).drew)
      have MB := Lib.hid (((M2.out.alloc #[.int .u64 f, .int .u64 k, .slice YA yn yc] 25).alloc' (b := wr.heap.size + 1) (by simp) #[.int .u64 f, .int .u64 k, .slice XA xn xc] 25).drew)
      have NA := Lib.hid (And.intro (MA.out.blk 2 rfl) (MA.out.blk 3 rfl))
      have NB := Lib.hid (And.intro (MB.out.blk 3 rfl) (MB.out.blk 2 rfl))
      clear MA MB
      have n1 : b1 < wr.heap.size := lt_of_cell x0
      have n2 : b2 < wr.heap.size := lt_of_cell y0
      have n3 : ¬ b1 = wr.heap.size := by omega
      have n4 : ¬ b2 = wr.heap.size := by omega
      have n5 : ¬ b1 = wr.heap.size + 1 := by omega
      have n6 : ¬ b2 = wr.heap.size + 1 := by omega
      clear hx hy
      go_upto_region 6 with fail
      go_region_held3 (fun w' => w'.cell? ⟨w.heap.size, 2, none⟩ = some (.slice (some ⟨b1, o1, none⟩) n c1) ∧ w'.cell? ⟨w.heap.size + 1, 2, none⟩ = some (.slice (some ⟨b2, o2, none⟩) n c2) ∧ w'.cell? ⟨b1, o1 + q * 4, none⟩ = some (.int .u64 xs) ∧ w'.cell? ⟨b1, o1 + q * 4 + 1, none⟩ = some (.int .u64 f) ∧ w'.cell? ⟨b1, o1 + q * 4 + 2, none⟩ = some (.int .u64 k) ∧ w'.cell? ⟨b1, o1 + q * 4 + 3, none⟩ = some (.slice XA xn xc) ∧ w'.cell? ⟨b2, o2 + q * 4, none⟩ = some (.int .u64 xs) ∧ w'.cell? ⟨b2, o2 + q * 4 + 1, none⟩ = some (.int .u64 f) ∧ w'.cell? ⟨b2, o2 + q * 4 + 2, none⟩ = some (.int .u64 k) ∧ w'.cell? ⟨b2, o2 + q * 4 + 3, none⟩ = some (.slice YA yn yc))
        (first | exact HC.out _ (by assumption) | exact HC.out _ (by repeat (first | exact Held.refl _ | refine Held.drew ?_ | refine Held.alloc ?_ _)))
        (first
        | (go_at_call 12; refine Calls.mono (by with_reducible exact HCC.out _ _ _ _ _ (by repeat (first | exact Held.refl _ | refine Held.drew ?_ | refine Held.alloc ?_ _)) NA.out.1 NA.out.2) ?_; rintro e w3 ⟨rfl, h3⟩; have h4 : Held wr w3 := Held.step (by repeat (first | exact Held.refl _ | refine Held.drew ?_ | refine Held.alloc ?_ _)) h3; clear h3)
        | (go_at_call 12; refine Calls.mono (by with_reducible exact HCC.out _ _ _ _ _ (by repeat (first | exact Held.refl _ | refine Held.drew ?_ | refine Held.alloc ?_ _)) NB.out.1 NB.out.2) ?_; rintro e w3 ⟨rfl, h3⟩; have h4 : Held wr w3 := Held.step (by repeat (first | exact Held.refl _ | refine Held.drew ?_ | refine Held.alloc ?_ _)) h3; clear h3))
      all_goals
        have M3 := Lib.hid (M2.out.keep h4)
        go_wp2
        go_roundw
        case rel => exact ⟨q + 1, by go_num, by omega, M3.out⟩
        case measure => (simp [RowKit.intOf]) <;> omega
    · obtain rfl : q = n := by omega
      have z2 : ¬ (q : Int) < q := by omega
      go_wp2
      go_ret
      exact ⟨rfl, M2.out.held⟩
end St
end Go.Proofs.YthpjbffhdaaibaaGreat
