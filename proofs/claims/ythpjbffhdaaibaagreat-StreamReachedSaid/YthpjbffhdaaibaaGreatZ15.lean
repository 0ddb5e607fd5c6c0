/-
  Contracts of the reference: Body, Unbody, Start (chapter 24).
  Contracts of the reference: Start, Sending, Receiving, opened, whole, Reply, Packets (printed by wip/tools/mkrsf.py; chapter 24).
  Contracts of the reference: opened, whole, Reply, Packets (printed by wip/tools/mkrsg.py; chapter 24).
  Append of a list, wherever it lies; it tells what grew (as in XStU; for texts that do not import that one).
  Contracts of the reference: Push (chapter 24).
-/
import Derived.Test.YthpjbffhdaaibaaGreatZ10
import Derived.Test.YthpjbffhdaaibaaGreatZ14
import Derived.Test.YthpjbffhdaaibaaGreatZ13
import Derived.Test.YthpjbffhdaaibaaGreatZ11
import Derived.Deep.DeepCutAuto
set_option linter.unusedVariables false
set_option linter.unusedSimpArgs false
set_option maxRecDepth 100000
namespace Go.Proofs.YthpjbffhdaaibaaGreat
open Go.RowKit Go.BigFrame Go.Sort Go.Lib
namespace St
open Enc Uv Lg Lgc Strs
set_option maxHeartbeats 2000000 in
theorem bodyr_any (f kn : Nat) (A : Option Addr) (n cap : Nat) (es : List Ent) (B : Nat) (w : World) (h : Sg B w ⟨f, kn, A, n, cap, es⟩) :
    Calls Tryz.prog 9 #[.agg #[.int .u64 f, .int .u64 kn, .slice A n cap]] w (EncTo (body ⟨f, kn, es⟩) w) := by
  have hf : (f : Int) ≤ 18446744073709551615 := by have := h.f; simp only at this; omega
  have hkn : (kn : Int) ≤ 18446744073709551615 := by have := h.kn; simp only at this; omega
  have hn5 : n ≤ 100000 := h.n
  have HA := Lib.hid ((Held.refl w).alloc (.cells #[.int .u64 f, .int .u64 kn, .slice A n cap] 25))
  have HK := Lib.hid fun (w' : World) (k : Held (w.alloc (.cells #[.int .u64 f, .int .u64 kn, .slice A n cap] 25)) w') => And.intro (Bx.cell (Bx.held (Bx.new w _) k) 0 rfl) (And.intro (Bx.cell (Bx.held (Bx.new w _) k) 1 rfl) (Bx.cell (Bx.held (Bx.new w _) k) 2 rfl))
  have HS := Lib.hid h.sl
  have HX := Lib.hid h.ok
  have HLN : Is es.length n := ⟨h.sl.1⟩
  have hno : ∀ {c : Int}, logOf ⟨f, kn, es⟩ = ([], c) → c ≠ 0 → body ⟨f, kn, es⟩ = ([], c) := fun {c} h1 h2 => by unfold body bodyOf; rw [h1, if_neg h2]
  have HNO : Hid (∀ c : Int, logOf ⟨f, kn, es⟩ = ([], c) → c ≠ 0 → body ⟨f, kn, es⟩ = ([], c)) := fun c h1 h2 => hno h1 h2
  clear h hno
  by_cases hfk : (kn : Int) < f
  · have HB : Is (body ⟨f, kn, es⟩) ([], 2400) := ⟨HNO.out _ (by unfold logOf; rw [if_pos (by simp; left; omega)]) (by decide)⟩
    go_enter Tryz.func9, Tryz.ntmps9
    go_wp2
    go_ret2
    exact EncTo.mk HB.out HA.out
  obtain ⟨w1, hw1⟩ : ∃ w1, w.alloc (.cells #[.int .u64 f, .int .u64 kn, .slice A n cap] 25) = w1 := ⟨_, rfl⟩
  have HW1 := Lib.hid hw1
  rw [hw1] at HA HK
  clear hw1
  obtain ⟨c0, c1, c2⟩ := HK.out _ (Held.refl _)
  go_enter Tryz.func9, Tryz.ntmps9
  go_wp2
  rw [HW1.out]
  go_loopw [4] (fun i wr => ∃ k : Nat, i = .int .i64 (k : Int) ∧ k ≤ n ∧ late (es.take k) kn = false ∧ Held w1 wr) (fun i _ => n - (RowKit.intOf i).toNat)
  case atStart => exact ⟨0, rfl, Nat.zero_le _, rfl, Held.refl _⟩
  case round =>
    obtain ⟨k, rfl, hk, hla, hh⟩ := hrel
    have HLA := Lib.hid hla
    have HH := Lib.hid hh
    clear hla c0 c1 c2
    obtain ⟨c0, c1, c2⟩ := HK.out _ HH.out
    by_cases hlk : k < n
    · obtain ⟨b, off, x, rfl, hb, hx, hxc⟩ := HS.out.at_ (HA.out.step hh) (k := k) hlk
      have x0 := hxc 0 _ rfl
      rw [Nat.add_zero] at x0
      have hkl : k < es.length := by rw [HLN.out]; exact hlk
      have hxe : es[k] = x := by rw [List.getElem?_eq_getElem hkl] at hx; injection hx
      have z1 : (k : Int) < n := by omega
      have z0 : (0 : Int) ≤ k := by omega
      have hl1 : late (es.take (k + 1)) kn = decide (kn < x.t) := by
        have hla2 := HLA.out
        unfold late at hla2 ⊢
        rw [List.take_succ_eq_append_getElem hkl, List.any_append, hla2, hxe]; simp
      have HL1 := Lib.hid hl1
      have HLL : Hid (decide (kn < x.t) = true → late es kn = true) := fun h => by
        unfold late
        rw [List.any_eq_true]
        exact ⟨x, hxe ▸ List.getElem_mem hkl, h⟩
      have k0 := cell_regrown c1
      have k1 := cell_regrown c2
      have k2 := cell_regrown x0
      clear hxc hx hkl hxe hl1 hh hb
      by_cases hbig : (kn : Int) < x.t
      · have HB : Is (body ⟨f, kn, es⟩) ([], 2400) := ⟨HNO.out _ (by unfold logOf; rw [if_pos (by rw [HLL.out (decide_eq_true (by omega))]; simp)]) (by decide)⟩
        have hbd : decide ((kn : Int) < x.t) = true := decide_eq_true hbig
        go_upto_region 6 with fail
        clear c0 c1 c2 x0
        refine wp_region_quiet_below (by kernel_rfl) (by kernel_rfl) ?_
        repeat (go_big_quiet_step (fail))
        refine wpQuiet_nil ?_
        intro _ hw'
        obtain ⟨⟨dq, osq⟩, hw''⟩ := hw'
        subst hw''
        go_wp2
        go_ret2
        exact EncTo.mk HB.out (HA.out.step (HH.out.step (below_regrown wr dq osq)))
      · have hl2 : late (es.take (k + 1)) kn = false := by rw [HL1.out]; exact decide_eq_false (by omega)
        have HL2 := Lib.hid hl2
        have hbd : decide ((kn : Int) < x.t) = false := decide_eq_false hbig
        clear hl2
        go_upto_region 6 with fail
        clear c0 c1 c2 x0
        refine wp_region_quiet_below (by kernel_rfl) (by kernel_rfl) ?_
        repeat (go_big_quiet_step (fail))
        refine wpQuiet_nil ?_
        intro _ hw'
        obtain ⟨⟨dq, osq⟩, hw''⟩ := hw'
        subst hw''
        go_wp2
        go_roundw
        case rel => exact ⟨k + 1, by go_num, by omega, HL2.out, HH.out.step (below_regrown wr dq osq)⟩
        case measure => (simp [RowKit.intOf]) <;> omega
    · obtain rfl : k = n := by omega
      have z1 : ¬ (k : Int) < k := by omega
      have hlo : logOf ⟨f, kn, es⟩ = encode es f := by
        have h1 := HLA.out
        rw [List.take_of_length_le (by rw [HLN.out]; exact Nat.le_refl _)] at h1
        unfold logOf
        rw [if_neg (by simp only [h1]; simp; omega)]
      have hll := logOf_len (g := ⟨f, kn, es⟩)
      have HB : Is (body ⟨f, kn, es⟩) (if (encode es f).2 = 0 then (put f ++ put kn ++ Cp.compress (encode es f).1, 0) else ([], (encode es f).2)) := ⟨by unfold body bodyOf; rw [hlo]⟩
      have H1 := Lib.hid (encoder_any A k cap es f wr (HS.out.held (HA.out.step hh)) (by omega) HX.out hf)
      rw [hlo] at hll
      obtain ⟨v, hv⟩ : ∃ v, encode es f = v := ⟨_, rfl⟩
      obtain ⟨bo, hbo⟩ : ∃ v, body ⟨f, kn, es⟩ = v := ⟨_, rfl⟩
      rw [hv] at H1 HB hll
      rw [hbo] at HB ⊢
      obtain ⟨s, c⟩ := v
      dsimp only at hll HB
      have P1 := Lib.hid fun w => put_ref_any f hf w
      have P2 := Lib.hid fun w => put_ref_any kn hkn w
      have P3 := Lib.hid fun w => Cp.compress_ref ⟨s.toArray⟩ w (by rw [ba_size]; omega)
      have lp1 := put_len f (by omega)
      have lp2 := put_len kn (by omega)
      have lp3 := Cp.compress_len s
      have lp4 : (s.length + 127) / 128 ≤ 513 := by omega
      rw [show (⟨s.toArray⟩ : ByteArray).data.toList = s by simp] at P3
      generalize put f = p1 at P1 HB lp1
      generalize put kn = p2 at P2 HB lp2
      generalize Cp.compress s = p3 at P3 HB lp3
      clear hv hlo hh HLA
      have HBO := Lib.hid hbo
      clear hbo
      go_wp2_with fail
      refine H1.out.mono ?_
      rintro e w2 ⟨rfl, h2⟩
      have W12 := Lib.hid (HH.out.step h2)
      have W2 := Lib.hid (HA.out.step W12.out)
      clear c0 c1 c2 h2 H1
      obtain ⟨c0, c1, c2⟩ := HK.out _ W12.out
      dsimp only
      by_cases hc : c = 0
      · have hcb : (c == 0) = true := by simpa using hc
        have HB2 : Is bo (p1 ++ p2 ++ p3, 0) := ⟨by rw [HB.out, if_pos hc]⟩
        clear HB
        subst hc
        go_wp2
        have k0 := cell_regrown c0
        have k1 := cell_regrown c1
        have cA := Lib.hid fun d os => Calls.regrown_of (d := d) (os := os) (P1.out (grow (redrawn w2 d) os))
        have cB := Lib.hid fun d os => Calls.regrown_of (d := d) (os := os) (P2.out (grow (redrawn w2 d) os))
        have cC := Lib.hid fun d os => Calls.regrown_of (d := d) (os := os) (P3.out (grow (redrawn w2 d) os))
        clear c0 c1 c2
        refine wp_region_quiet_below (by kernel_rfl) (by kernel_rfl) ?_
        repeat (go_big_quiet_step (first | (go_at_call 40; with_reducible exact cA.out _ _) | (go_at_call 40; with_reducible exact cB.out _ _) | (go_at_call 41; with_reducible exact cC.out _ _)))
        refine wpQuiet_nil ?_
        intro _ hw'
        obtain ⟨⟨dq, osq⟩, hw''⟩ := hw'
        subst hw''
        have W3 := Lib.hid (W2.out.step (below_regrown w2 dq osq))
        clear k0 k1 cA cB cC
        go_wp2
        go_ret2
        exact EncTo.mk (by rw [HBO.out, HB2.out]; simp) W3.out
      · have hcb : (c == 0) = false := by simpa using hc
        have HB2 : Is bo ([], c) := ⟨by rw [HB.out, if_neg hc]⟩
        clear HB hc
        go_wp2
        go_ret2
        exact EncTo.mk (by rw [HBO.out]; first | exact HB2.out | (rw [HB2.out]; rfl)) W2.out
set_option maxHeartbeats 2000000 in
theorem unbodyr_any (s : ByteArray) (hs : (s.size : Int) ≤ 1000000000000) (w : World) : Calls Tryz.prog 11 #[.string s] w (UnTo (unbody s.data.toList) w) := by
  obtain ⟨l, hl⟩ : ∃ l, s.data.toList = l := ⟨_, rfl⟩
  have HS : Is s.data.toList l := ⟨hl⟩
  have hsl : l.length = s.size := by rw [← hl, len_eq]
  have hu := fun w => uv_ref_any s (by omega) w
  rw [hl] at hu ⊢
  have hX := uvX_lt l
  have hN := uvN_le l
  have HB : Is (unbody l) (if uvB l = false then (noSeg, 2400) else unbody2 (uvX l) (l.drop (uvN l))) := ⟨rfl⟩
  obtain ⟨p, hp⟩ : ∃ p, unbody l = p := ⟨_, rfl⟩
  rw [hp] at HB ⊢
  have HU := Lib.hid hu
  generalize uvX l = X at HU HB hX
  generalize uvB l = Y at HU HB
  obtain ⟨N, hNe⟩ : ∃ N, uvN l = N := ⟨_, rfl⟩
  rw [hNe] at HU HB hN
  have HNE := Lib.hid hNe
  have hN2 : N ≤ s.size := by omega
  have hu2 := fun w => uv_ref_any (s.extract N s.size) (by rw [ByteArray.size_extract]; omega) w
  rw [ext_drop, hl] at hu2
  obtain ⟨t, ht⟩ : ∃ t, l.drop N = t := ⟨_, rfl⟩
  have htl : t.length = s.size - N := by rw [← ht, List.length_drop]; omega
  rw [ht] at hu2 HB
  have HT : Is ((s.extract N s.size).data.toList) t := ⟨by rw [ext_drop, hl, ht]⟩
  have HU2 := Lib.hid hu2
  have hX2 := uvX_lt t
  have hN3 := uvN_le t
  have hu2' : Is (unbody2 X t) (if (!uvB t || decide (uvX t < X)) = true then (noSeg, 2400) else unpack X (uvX t) (Cp.dec 65536 (t.drop (uvN t)) [])) := ⟨rfl⟩
  obtain ⟨ub, hub⟩ : ∃ ub, unbody2 X t = ub := ⟨_, rfl⟩
  rw [hub] at HB hu2'
  generalize uvX t = X2 at HU2 hu2' hX2
  generalize uvB t = Y2 at HU2 hu2'
  obtain ⟨N2, hNe2⟩ : ∃ N2, uvN t = N2 := ⟨_, rfl⟩
  rw [hNe2] at HU2 hu2' hN3
  clear hu hu2 hp hub hNe hNe2 ht hl HNE
  have M0 := Lib.hid ((Mem.start w).alloc' (b := w.heap.size) rfl #[.int .u64 0, .int .u64 0, .slice none 0 0] 25)
  obtain ⟨⟨c0, c1, c2⟩, ⟨f0, f1, f2⟩, hlt⟩ := M0.out.box3 0 rfl
  obtain ⟨w1, hw1⟩ : ∃ w1, w.alloc (.cells #[.int .u64 0, .int .u64 0, .slice none 0 0] 25) = w1 := ⟨_, rfl⟩
  have HW1 := Lib.hid hw1
  rw [hw1] at M0 c0 c1 c2 f0 f1 f2 hlt
  clear hw1
  go_enter Tryz.func11, Tryz.ntmps11
  go_wp2_with fail
  rw [HW1.out]
  refine (HU.out _).mono ?_
  rintro e w2 ⟨rfl, rfl⟩
  clear HU
  cases Y
  · have HP : Is p (noSeg, 2400) := ⟨HB.out⟩
    clear HB hu2' HU2
    go_wp2
    refine bodyPost_ret (Bx.res_ct Tryz.results11 rfl (seg_load ((Mem.put3 M0.out (.int .u64 0) (.int .u64 0) (.slice none 0 0)).blk 0 rfl))) rfl ?_
    exact un_no HP.out (Mem.put3 M0.out _ _ _).held rfl
  have HP : Is p ub := ⟨by rw [HB.out, if_neg (by simp)]⟩
  clear HB
  have hNi : (N : Int) ≤ s.size := by omega
  have hN0 : (0 : Int) ≤ N := by omega
  go_wp2_with fail
  refine (HU2.out _).mono ?_
  rintro e w2 ⟨rfl, rfl⟩
  clear HU2
  by_cases hc2 : (!Y2 || decide (X2 < X)) = true
  · have HP2 : Is p (noSeg, 2400) := ⟨by rw [HP.out, hu2'.out, if_pos hc2]⟩
    clear HP hu2'
    cases Y2
    · clear hc2
      go_wp2
      refine bodyPost_ret (Bx.res_ct Tryz.results11 rfl (seg_load ((Mem.put3 M0.out (.int .u64 0) (.int .u64 0) (.slice none 0 0)).blk 0 rfl))) rfl ?_
      exact un_no HP2.out (Mem.put3 M0.out _ _ _).held rfl
    · have hlt3 : (X2 : Int) < X := by simp at hc2; omega
      clear hc2
      go_wp2
      refine bodyPost_ret (Bx.res_ct Tryz.results11 rfl (seg_load ((Mem.put3 M0.out (.int .u64 0) (.int .u64 0) (.slice none 0 0)).blk 0 rfl))) rfl ?_
      exact un_no HP2.out (Mem.put3 M0.out _ _ _).held rfl
  have HP2 : Is p (unpack X X2 (Cp.dec 65536 (t.drop N2) [])) := ⟨by rw [HP.out, hu2'.out, if_neg hc2]⟩
  obtain rfl : Y2 = true := by cases Y2 <;> simp_all
  have hlt3 : ¬ (X2 : Int) < X := by simp at hc2; omega
  have hlt4 : decide ((X2 : Int) < X) = false := decide_eq_false hlt3
  clear HP hu2' hc2
  have hts : (s.extract N s.size).size = s.size - N := by rw [ByteArray.size_extract]; omega
  have hd := Cp.dec_ref (s.extract (N + N2) s.size) 65536 w1 (by rw [ByteArray.size_extract]; omega) (by omega)
  have HT3 : (s.extract (N + N2) s.size).data.toList = t.drop N2 := by rw [ext_drop, ← HT.out, ext_drop, List.drop_drop]
  rw [HT3] at hd
  obtain ⟨d, hdd⟩ : ∃ d, Cp.dec 65536 (t.drop N2) [] = d := ⟨_, rfl⟩
  have hdd2 : Cp.dec (65536 : Int).toNat (t.drop N2) [] = d := hdd
  rw [hdd2] at hd
  rw [hdd] at HP2
  obtain ⟨dc, ds⟩ := d
  have HD := Lib.hid hd
  have hdl : ds.length ≤ 65536 := by have := dec_len 65536 (t.drop N2) [] (Nat.zero_le _); rw [hdd] at this; exact this
  clear hd hdd hdd2
  have hNi2 : (N2 : Int) ≤ s.size - N := by omega
  have hNi3 : N2 ≤ s.size - N := by omega
  have hNi4 : (0 : Int) ≤ N2 := by omega
  have hnw : IntKind.i64.wrap ((N : Int) + N2) = ((N + N2 : Nat) : Int) := by rw [IntWalk.i64_in _ (by omega)]; omega
  have hnw2 : (N : Int) + N2 ≤ s.size := by omega
  have hnw3 : ((N : Int) + N2).toNat = N + N2 := by omega
  have hnw4 : (0 : Int) ≤ (N : Int) + N2 := by omega
  go_wp2_with fail
  refine HD.out.mono ?_
  rintro e w2 ⟨rfl, h2⟩
  have M1 := Lib.hid (M0.out.keep h2)
  clear c0 c1 c2 f0 f1 f2 hlt h2 HD M0 HW1
  obtain ⟨⟨c0, c1, c2⟩, ⟨f0, f1, f2⟩, hlt⟩ := M1.out.box3 0 rfl
  by_cases hdc : ¬ dc = 0
  · have hdc2 : ((dc : Int) == 0) = false := by rw [beq_eq_false_iff_ne]; omega
    have hdc3 : (dc == 0) = false := by rw [beq_eq_false_iff_ne]; exact hdc
    have HP3 : Is p (noSeg, dc) := ⟨by rw [HP2.out]; unfold unpack; rw [if_pos hdc]⟩
    clear HP2 hdc
    go_wp2
    refine bodyPost_ret (Bx.res_ct Tryz.results11 rfl (seg_load ((Mem.put3 M1.out (.int .u64 0) (.int .u64 0) (.slice none 0 0)).blk 0 rfl))) rfl ?_
    exact un_no HP3.out (Mem.put3 M1.out _ _ _).held rfl
  have hdc := Decidable.not_not.1 hdc
  subst hdc
  have HP3 : Is p (unlog X X2 (decL ds X)) := ⟨by rw [HP2.out]; unfold unpack; rw [if_neg (by simp)]⟩
  clear HP2
  have he := decoder_any ⟨ds.toArray⟩ X (by rw [ba_size]; omega) (by omega) w2
  rw [show (⟨ds.toArray⟩ : ByteArray).data.toList = ds by simp] at he
  obtain ⟨r, hr⟩ : ∃ r, decL ds X = r := ⟨_, rfl⟩
  rw [hr] at he HP3
  obtain ⟨L, rc⟩ := r
  have HE := Lib.hid he
  clear he hr
  go_wp2_with fail
  refine HE.out.mono ?_
  rintro e w3 ⟨A, cap, rfl, o3, h3, hok, hl4⟩
  dsimp only at o3 hok hl4 ⊢
  obtain ⟨n, hn⟩ : ∃ n, L.length = n := ⟨_, rfl⟩
  have HN : Is L.length n := ⟨hn⟩
  have HOK := Lib.hid hok
  have M2 := Lib.hid (M1.out.own h3 o3)
  rw [hn] at M2 hl4 ⊢
  clear hn hok c0 c1 c2 f0 f1 f2 hlt h3 o3 HE M1
  obtain ⟨⟨c0, c1, c2⟩, ⟨f0, f1, f2⟩, hlt⟩ := M2.out.box3 0 rfl
  by_cases hrc : ¬ rc = 0
  · have hrc2 : (rc == 0) = false := by rw [beq_eq_false_iff_ne]; exact hrc
    have HP4 : Is p (noSeg, rc) := ⟨by rw [HP3.out]; unfold unlog; rw [if_pos hrc]⟩
    clear HP3 hrc
    go_wp2
    refine bodyPost_ret (Bx.res_ct Tryz.results11 rfl (seg_load ((Mem.put3 M2.out (.int .u64 0) (.int .u64 0) (.slice none 0 0)).blk 0 rfl))) rfl ?_
    exact un_no HP4.out (Mem.put3 M2.out _ _ _).held rfl
  have hrc := Decidable.not_not.1 hrc
  subst hrc
  have HSL := Lib.hid (Own.reads entC_len (M2.out.row 1 rfl)).1
  have HP4 : Is p (if late L X2 = true then (noSeg, 2400) else (⟨X, X2, L⟩, 0)) := ⟨by rw [HP3.out]; unfold unlog; rw [if_neg (by simp)]⟩
  clear HP3 c0 c1 c2 f0 f1 f2 hlt
  go_wp2
  go_loopw [12] (fun i wr => ∃ k : Nat, i = .int .i64 (k : Int) ∧ k ≤ n ∧ late (L.take k) X2 = false ∧ Mem w wr [.box w.heap.size #[.int .u64 0, .int .u64 0, .slice none 0 0] 25, .row 70 4 entC w.heap.size (.slice A n cap) L]) (fun i _ => n - (RowKit.intOf i).toNat)
  case atStart => exact ⟨0, rfl, Nat.zero_le _, rfl, M2.out⟩
  case round =>
    obtain ⟨k, rfl, hk, hla, hM⟩ := hrel
    have HLA := Lib.hid hla
    have M3 := Lib.hid hM
    clear hla hM M2
    obtain ⟨⟨c0, c1, c2⟩, ⟨f0, f1, f2⟩, hlt⟩ := M3.out.box3 0 rfl
    by_cases hlk : k < n
    · obtain ⟨g, x, rfl, hge, hgl, hx, hxc⟩ := M3.out.slot 1 rfl entC_len (by decide) (k := k) (by rw [HN.out]; exact hlk)
      have x0 := (hxc 0 (by decide)).2 _ rfl
      rw [Nat.add_zero] at x0
      have hkl : k < L.length := by rw [HN.out]; exact hlk
      have hxe : L[k] = x := by rw [List.getElem?_eq_getElem hkl] at hx; injection hx
      have z1 : (k : Int) < n := by omega
      have z0 : (0 : Int) ≤ k := by omega
      have hl1 : late (L.take (k + 1)) X2 = decide (X2 < x.t) := by
        have hla2 := HLA.out
        unfold late at hla2 ⊢
        rw [List.take_succ_eq_append_getElem hkl, List.any_append, hla2, hxe]; simp
      have HL1 := Lib.hid hl1
      have HLL : Hid (decide (X2 < x.t) = true → late L X2 = true) := fun h => by
        unfold late
        rw [List.any_eq_true]
        exact ⟨x, hxe ▸ List.getElem_mem hkl, h⟩
      clear hxc hx hkl hxe hl1
      by_cases hbig : (X2 : Int) < x.t
      · have HP5 : Is p (noSeg, 2400) := ⟨by rw [HP4.out, if_pos (HLL.out (decide_eq_true (by omega)))]⟩
        clear HP4
        go_wp2
        refine bodyPost_ret (Bx.res_ct Tryz.results11 rfl (seg_load ((Mem.put3 M3.out (.int .u64 0) (.int .u64 0) (.slice none 0 0)).blk 0 rfl))) rfl ?_
        exact un_no HP5.out (Mem.put3 M3.out _ _ _).held rfl
      · have hl2 : late (L.take (k + 1)) X2 = false := by rw [HL1.out]; exact decide_eq_false (by omega)
        have HL2 := Lib.hid hl2
        clear hl2
        go_wp2
        go_roundw
        case rel => exact ⟨k + 1, by go_num, by omega, HL2.out, M3.out⟩
        case measure => (simp [RowKit.intOf]) <;> omega
    · obtain rfl : k = n := by omega
      have z1 : ¬ (k : Int) < k := by omega
      have HP5 : Is p (⟨X, X2, L⟩, 0) := ⟨by
        have h1 := HLA.out
        rw [List.take_of_length_le (by rw [HN.out]; exact Nat.le_refl _)] at h1
        rw [HP4.out, h1]; rfl⟩
      clear HP4
      go_wp2
      have MF := Mem.put3 M3.out (.int .u64 X) (.int .u64 X2) (.slice A k cap)
      refine bodyPost_ret (Bx.res_ct Tryz.results11 rfl (seg_load (MF.blk 0 rfl))) rfl ?_
      rw [HP5.out]
      have hrow := MF.row 1 rfl
      exact ⟨A, k, cap, rfl, fun B => ⟨(Own.reads entC_len hrow).1, Ty.own hrow, by simp only; omega, hX, hX2, HOK.out⟩, MF.held⟩
end St
end Go.Proofs.YthpjbffhdaaibaaGreat

set_option linter.unusedVariables false
set_option linter.unusedSimpArgs false
set_option maxRecDepth 100000
namespace Go.Proofs.YthpjbffhdaaibaaGreat
open Go.RowKit Go.BigFrame Go.Sort Go.Lib
namespace St
open Enc Uv Lg Lgc Strs
theorem body_code (g : Seg) : (body g).2 = (logOf g).2 := by
  unfold body bodyOf
  split
  · rename_i h; exact h.symm
  · rfl
theorem segOk_code (g : Seg) : segOk g = decide ((body g).2 = 0) := by unfold segOk; rw [body_code]
/-- The reference's walk through the queue. -/
def sndF : Bool → Nat → List Seg → Option Nat
  | _, a, [] => some a
  | fst, a, g :: l => if (segOk g && decide (a ≤ g.f) && (fst || decide (g.f = a))) = true then sndF false g.kn l else none
theorem sndF_false : ∀ (l : List Seg) (a : Nat), sndF false a l = chain a l
  | [], _ => rfl
  | g :: l, a => by
    unfold sndF chain
    by_cases e : g.f = a
    · simp only [e, Nat.le_refl, decide_true, Bool.and_true, Bool.or_true, Bool.true_and]
      rw [sndF_false l g.kn]
    · simp [e]
theorem sendQ_eq (S : Snd) : sendQ S = match sndF true S.kn S.q with | none => false | some a => if S.q = [] then decide (a ≤ S.t) else decide (S.t = a) := by
  obtain ⟨b, t, kn, q⟩ := S
  cases q with
  | nil => rfl
  | cons g l =>
    rw [send_cons]
    simp only [sndF, chain, decide_true, Bool.true_and, Bool.true_or, Bool.and_true]
    rw [sndF_false]
    by_cases h1 : segOk g = true
    · by_cases h2 : kn ≤ g.f
      · simp only [h1, h2, decide_true, Bool.true_and, if_true, Bool.and_self]
        cases chain g.kn l with
        | none => rfl
        | some a =>
          simp
          rw [Bool.eq_iff_iff]
          simp
          exact ⟨fun h => h.symm, fun h => h.symm⟩
      · simp [h2]
    · simp [h1]
theorem sndF_at {fst : Bool} {at_ : Nat} {L : List SR} {q : Nat} {x : SR} (h : L[q]? = some x) : sndF fst at_ ((gs L).drop q) = if (segOk x.g && decide (at_ ≤ x.f) && (fst || decide (x.f = at_))) = true then sndF false x.kn ((gs L).drop (q + 1)) else none := by
  obtain ⟨hl, rfl⟩ := List.getElem?_eq_some_iff.1 h
  have hl2 : q < (gs L).length := by rw [gs_len]; exact hl
  have e : (gs L)[q]'hl2 = L[q].g := List.getElem_map SR.g
  rw [List.drop_eq_getElem_cons hl2, sndF, e]; rfl
theorem sndF_end {fst : Bool} {at_ : Nat} {L : List SR} {q : Nat} (h : L.length = q) : sndF fst at_ ((gs L).drop q) = some at_ := by
  rw [List.drop_of_length_le (by rw [gs_len]; omega)]; cases fst <;> rfl
theorem start_any (at_ : Nat) (w : World) : Calls Tryz.prog 29 #[.int .u64 at_] w (NewTo at_ w) := by
  have M : Hid (Mem w ((w.alloc (.cells #[.int .u64 1, .int .u64 at_, .int .u64 at_, .slice none 0 0] 28)).alloc (.cells #[.int .u64 1, .int .u64 at_, .slice none 0 0] 31)) [.box w.heap.size #[.int .u64 1, .int .u64 at_, .int .u64 at_, .slice none 0 0] 28, .box (w.heap.size + 1) #[.int .u64 1, .int .u64 at_, .slice none 0 0] 31]) :=
    ((Mem.start w).alloc' (b := w.heap.size) rfl _ _).alloc' (b := w.heap.size + 1) (by simp) _ _
  go_enter Tryz.func29, Tryz.ntmps29
  go_wp2
  refine bodyPost_ret (res_cc Tryz.results29 rfl rfl (snd_load (M.out.blk 0 rfl)) (rcv_load (M.out.blk 1 rfl))) rfl ?_
  exact ⟨rfl, M.out.held⟩
set_option maxHeartbeats 4000000 in
theorem sendr_any (b t kn : Nat) (A : Option Addr) (n cap : Nat) (L : List SR) (B : Nat) (w : World) (h : Sl 3 segC w A n L) (hg : Sgs B w L) (hn : n ≤ 1000000) :
    Calls Tryz.prog 14 #[.agg #[.int .u64 b, .int .u64 t, .int .u64 kn, .slice A n cap]] w (BoolTo (sending ⟨b, t, kn, gs L⟩) w) := by
  have HS := Lib.hid h
  have HG := Lib.hid hg
  have HL : Is L.length n := ⟨h.1⟩
  have hn2 : (n : Int) ≤ 1000000 := by omega
  have hql : (gs L).length = n := by rw [gs_len]; exact h.1
  have HA := Lib.hid ((Held.refl w).alloc (.cells #[.int .u64 b, .int .u64 t, .int .u64 kn, .slice A n cap] 28))
  have HK := Lib.hid fun (w' : World) (k : Held (w.alloc (.cells #[.int .u64 b, .int .u64 t, .int .u64 kn, .slice A n cap] 28)) w') => And.intro (Bx.cell (Bx.held (Bx.new w _) k) 0 rfl) (And.intro (Bx.cell (Bx.held (Bx.new w _) k) 1 rfl) (And.intro (Bx.cell (Bx.held (Bx.new w _) k) 2 rfl) (Bx.cell (Bx.held (Bx.new w _) k) 3 rfl)))
  obtain ⟨r, hr⟩ : ∃ r, sending ⟨b, t, kn, gs L⟩ = r := ⟨_, rfl⟩
  rw [hr]
  have HNO : Hid (¬ (1 ≤ b ∧ b ≤ 4611686018427387904 ∧ n ≤ 8) → r = false) := fun h => by rw [← hr]; exact send_b (by simp only; rw [hql]; exact h)
  have HYES : Hid (1 ≤ b ∧ b ≤ 4611686018427387904 ∧ n ≤ 8 → r = sendQ ⟨b, t, kn, gs L⟩) := fun h => by rw [← hr]; exact send_q (by simp only; rw [hql]; exact h)
  clear h hg hr hql
  by_cases h1 : (b : Int) < 1
  · have HR := Lib.hid (HNO.out (by omega))
    clear HNO HYES
    go_enter Tryz.func14, Tryz.ntmps14
    go_wp2
    go_ret
    exact BoolTo.mk HR.out.symm HA.out
  have h1d : decide ((b : Int) < 1) = false := decide_eq_false h1
  by_cases h2 : (4611686018427387904 : Int) < b
  · have HR := Lib.hid (HNO.out (by omega))
    clear HNO HYES
    go_enter Tryz.func14, Tryz.ntmps14
    go_wp2
    go_ret
    exact BoolTo.mk HR.out.symm HA.out
  have h2d : decide ((4611686018427387904 : Int) < b) = false := decide_eq_false h2
  by_cases h3 : (8 : Int) < n
  · have HR := Lib.hid (HNO.out (by omega))
    clear HNO HYES
    go_enter Tryz.func14, Tryz.ntmps14
    go_wp2
    go_ret
    exact BoolTo.mk HR.out.symm HA.out
  have h3d : decide ((8 : Int) < n) = false := decide_eq_false h3
  have HR := Lib.hid (HYES.out (by omega))
  clear HNO HYES
  have hR2 : r = match sndF true kn (gs L) with | none => false | some a => if gs L = [] then decide (a ≤ t) else decide (t = a) := by rw [HR.out]; exact sendQ_eq _
  have HR2 := Lib.hid hR2
  clear HR hR2
  go_enter Tryz.func14, Tryz.ntmps14
  go_wp2
  go_loopw [3, 4] (fun a i wr => ∃ q at_ : Nat, a = .int .u64 (at_ : Int) ∧ i = .int .i64 (q : Int) ∧ q ≤ n ∧ sndF true kn (gs L) = sndF (decide (q = 0)) at_ ((gs L).drop q) ∧ Held (w.alloc (.cells #[.int .u64 b, .int .u64 t, .int .u64 kn, .slice A n cap] 28)) wr) (fun _ i _ => n - (RowKit.intOf i).toNat)
  case atStart => exact ⟨0, kn, rfl, rfl, Nat.zero_le _, rfl, Held.refl _⟩
  case round =>
    obtain ⟨q, at_, rfl, rfl, hq, hch, hh⟩ := hrel
    have HCH := Lib.hid hch
    have HH := Lib.hid (HA.out.step hh)
    obtain ⟨c0, c1, c2, c3⟩ := HK.out _ hh
    have HHA := Lib.hid hh
    clear hch hh
    by_cases hlt : q < n
    · obtain ⟨b1, off, f', kn', A', n', cap', es', rfl, hb1, hx, x0, x1, x2⟩ := segAt HS.out HH.out (k := q) hlt
      have z2 : (q : Int) < n := by omega
      have z3 : (0 : Int) ≤ q := by omega
      have HC := Lib.hid (sndF_at (fst := decide (q = 0)) (at_ := at_) hx)
      have SG := Lib.hid (HG.out.at_ hx)
      have HE := Lib.hid (bodyr_any f' kn' A' n' cap' es' B wr (SG.out.held HH.out))
      have HSO := Lib.hid (segOk_code ⟨f', kn', es'⟩)
      have HX := Lib.hid fun (w' : World) (k : Held wr w') => And.intro (k.cell x0) (And.intro (k.cell x1) (k.cell x2))
      obtain ⟨bd, hbd⟩ : ∃ bd, body ⟨f', kn', es'⟩ = bd := ⟨_, rfl⟩
      rw [hbd] at HE HSO
      obtain ⟨bl, ec⟩ := bd
      clear hx hb1 hbd
      go_wp2_with fail
      refine HE.out.mono ?_
      rintro e w3 ⟨rfl, h3⟩
      dsimp only
      have HHB := Lib.hid (HHA.out.step h3)
      clear x0 x1 x2 c0 c1 c2 c3
      obtain ⟨c0, c1, c2, c3⟩ := HK.out _ HHB.out
      obtain ⟨x0, x1, x2⟩ := HX.out _ h3
      clear h3 HE
      by_cases hec : ¬ ec = 0
      · have he1 : (ec == 0) = false := by rw [beq_eq_false_iff_ne]; exact hec
        have he2 : (ec != 0) = true := by rw [bne, he1]; rfl
        have HR5 : Is r false := ⟨by rw [HR2.out, HCH.out, HC.out]; simp only [SR.g, HSO.out, decide_eq_false hec]; rfl⟩
        clear HR2 HCH HC hec
        go_wp2
        go_ret
        exact BoolTo.mk HR5.out.symm (HA.out.step HHB.out)
      have hec := Decidable.not_not.1 hec
      subst hec
      by_cases hlo : (f' : Int) < at_
      · have HR5 : Is r false := ⟨by rw [HR2.out, HCH.out, HC.out]; simp only [decide_eq_false (show ¬ at_ ≤ f' by omega), Bool.and_false, Bool.false_and]; rfl⟩
        clear HR2 HCH HC
        go_wp2
        go_ret
        exact BoolTo.mk HR5.out.symm (HA.out.step HHB.out)
      have hlo1 : decide ((f' : Int) < at_) = false := decide_eq_false hlo
      have hlo2 : decide (f' < at_) = false := decide_eq_false (by omega)
      have HSO2 : Is (segOk ⟨f', kn', es'⟩) true := ⟨by rw [HSO.out]; simp⟩
      have HC2 : Is (sndF (decide (q = 0)) at_ ((gs L).drop q)) (if (decide (q = 0) || decide (f' = at_)) = true then sndF false kn' ((gs L).drop (q + 1)) else none) := ⟨by rw [HC.out]; simp only [SR.g, HSO2.out, decide_eq_true (show at_ ≤ f' by omega), Bool.true_and]⟩
      clear HC HSO HSO2
      by_cases hq0 : q = 0
      · have d1 : decide ((0 : Int) < q) = false := decide_eq_false (by omega)
        have d2 : decide (0 < q) = false := decide_eq_false (by omega)
        have HCH2 : Hid (sndF true kn (gs L) = sndF (decide (q + 1 = 0)) kn' ((gs L).drop (q + 1))) := show sndF true kn (gs L) = sndF (decide (q + 1 = 0)) kn' ((gs L).drop (q + 1)) by rw [HCH.out, HC2.out]; simp [hq0]
        clear HCH HC2 hq0
        go_wp2
        go_roundw
        case rel => exact ⟨q + 1, kn', rfl, by go_num, by omega, HCH2.out, HHB.out⟩
        case measure => (simp [RowKit.intOf]) <;> omega
      have d1 : (0 : Int) < q := by omega
      have d2 : 0 < q := by omega
      by_cases hfa : f' = at_
      · have e1 : ((f' : Int) == at_) = true := by simp [hfa]
        have e2 : (f' == at_) = true := by simp [hfa]
        have HCH2 : Hid (sndF true kn (gs L) = sndF (decide (q + 1 = 0)) kn' ((gs L).drop (q + 1))) := show sndF true kn (gs L) = sndF (decide (q + 1 = 0)) kn' ((gs L).drop (q + 1)) by rw [HCH.out, HC2.out]; simp [hfa]
        clear HCH HC2 hfa
        go_wp2
        go_roundw
        case rel => exact ⟨q + 1, kn', rfl, by go_num, by omega, HCH2.out, HHB.out⟩
        case measure => (simp [RowKit.intOf]) <;> omega
      · have e1 : ((f' : Int) == at_) = false := by rw [beq_eq_false_iff_ne]; omega
        have e2 : (f' == at_) = false := by rw [beq_eq_false_iff_ne]; exact hfa
        have HR5 : Is r false := ⟨by rw [HR2.out, HCH.out, HC2.out]; simp [hfa, hq0]⟩
        clear HR2 HCH HC2 hfa hq0
        go_wp2
        go_ret
        exact BoolTo.mk HR5.out.symm (HA.out.step HHB.out)
    · obtain rfl : q = n := by omega
      have z2 : ¬ (q : Int) < q := by omega
      have HR5 : Is r (if gs L = [] then decide (at_ ≤ t) else decide (t = at_)) := ⟨by rw [HR2.out, HCH.out, sndF_end HL.out]⟩
      clear HR2 HCH
      by_cases hq0 : q = 0
      · have hL0 : gs L = [] := List.eq_nil_of_length_eq_zero (by rw [gs_len, HL.out]; exact hq0)
        have d1 : decide ((0 : Int) < q) = false := decide_eq_false (by omega)
        have d2 : decide (0 < q) = false := decide_eq_false (by omega)
        have HR6 : Is r (decide (at_ ≤ t)) := ⟨by rw [HR5.out, if_pos hL0]⟩
        clear HR5 hL0 hq0
        go_wp2
        go_ret
        exact BoolTo.mk (by first | exact HR6.out.symm | (rw [HR6.out, decide_eq_decide]; omega)) HH.out
      · have hL0 : ¬ gs L = [] := fun e => hq0 (by rw [← HL.out, ← gs_len, e]; rfl)
        have d1 : (0 : Int) < q := by omega
        have d2 : 0 < q := by omega
        have HR6 : Is r (decide (t = at_)) := ⟨by rw [HR5.out, if_neg hL0]⟩
        clear HR5 hL0 hq0
        by_cases he : t = at_
        · subst he
          have HR7 : Is r true := ⟨by rw [HR6.out]; simp⟩
          clear HR6
          go_wp2
          go_ret
          exact BoolTo.mk HR7.out.symm HH.out
        · have he1 : ((t : Int) == at_) = false := by rw [beq_eq_false_iff_ne]; omega
          have he2 : (t == at_) = false := by rw [beq_eq_false_iff_ne]; exact he
          have HR7 : Is r false := ⟨by rw [HR6.out]; exact decide_eq_false he⟩
          clear HR6
          go_wp2
          go_ret
          exact BoolTo.mk HR7.out.symm HH.out
set_option maxHeartbeats 4000000 in
theorem receiver_any (b kn : Nat) (A : Option Addr) (n cap : Nat) (L : List ErR) (B : Nat) (w : World) (h : Sl 4 erC w A n L) (hg : Ers B w L) (hn : n ≤ 1000000) :
    Calls Tryz.prog 16 #[.agg #[.int .u64 b, .int .u64 kn, .slice A n cap]] w (BoolTo (receiving ⟨b, kn, ers L⟩) w) := by
  have HS := Lib.hid h
  have HG := Lib.hid hg
  have HL : Is L.length n := ⟨h.1⟩
  have hn2 : (n : Int) ≤ 1000000 := by omega
  have hql : (ers L).length = n := by rw [ers_len]; exact h.1
  have HA := Lib.hid ((Held.refl w).alloc (.cells #[.int .u64 b, .int .u64 kn, .slice A n cap] 31))
  have HK := Lib.hid fun (w' : World) (k : Held (w.alloc (.cells #[.int .u64 b, .int .u64 kn, .slice A n cap] 31)) w') => And.intro (Bx.cell (Bx.held (Bx.new w _) k) 0 rfl) (And.intro (Bx.cell (Bx.held (Bx.new w _) k) 1 rfl) (Bx.cell (Bx.held (Bx.new w _) k) 2 rfl))
  obtain ⟨r, hr⟩ : ∃ r, receiving ⟨b, kn, ers L⟩ = r := ⟨_, rfl⟩
  rw [hr]
  have HNO : Hid (¬ (1 ≤ b ∧ b ≤ 4611686018427387904 ∧ n ≤ 7) → r = false) := fun h => by rw [← hr]; exact rcv_b (by simp only; rw [hql]; exact h)
  have HYES : Hid (1 ≤ b ∧ b ≤ 4611686018427387904 ∧ n ≤ 7 → r = asc b b (ers L)) := fun h => by rw [← hr]; exact rcv_q (by simp only; rw [hql]; exact h)
  clear h hg hr hql
  by_cases h1 : (b : Int) < 1
  · have HR := Lib.hid (HNO.out (by omega))
    clear HNO HYES
    go_enter Tryz.func16, Tryz.ntmps16
    go_wp2
    go_ret
    exact BoolTo.mk HR.out.symm HA.out
  have h1d : decide ((b : Int) < 1) = false := decide_eq_false h1
  by_cases h2 : (4611686018427387904 : Int) < b
  · have HR := Lib.hid (HNO.out (by omega))
    clear HNO HYES
    go_enter Tryz.func16, Tryz.ntmps16
    go_wp2
    go_ret
    exact BoolTo.mk HR.out.symm HA.out
  have h2d : decide ((4611686018427387904 : Int) < b) = false := decide_eq_false h2
  by_cases h3 : (7 : Int) < n
  · have HR := Lib.hid (HNO.out (by omega))
    clear HNO HYES
    go_enter Tryz.func16, Tryz.ntmps16
    go_wp2
    go_ret
    exact BoolTo.mk HR.out.symm HA.out
  have h3d : decide ((7 : Int) < n) = false := decide_eq_false h3
  have HR := Lib.hid (HYES.out (by omega))
  clear HNO HYES
  go_enter Tryz.func16, Tryz.ntmps16
  go_wp2
  go_loopw [3, 4] (fun a i wr => ∃ q at_ : Nat, a = .int .u64 (at_ : Int) ∧ i = .int .i64 (q : Int) ∧ q ≤ n ∧ b ≤ at_ ∧ asc b b (ers L) = asc b at_ ((ers L).drop q) ∧ Held (w.alloc (.cells #[.int .u64 b, .int .u64 kn, .slice A n cap] 31)) wr) (fun _ i _ => n - (RowKit.intOf i).toNat)
  case atStart => exact ⟨0, b, rfl, rfl, Nat.zero_le _, Nat.le_refl _, rfl, Held.refl _⟩
  case round =>
    obtain ⟨q, at_, rfl, rfl, hq, hba, hch, hh⟩ := hrel
    have HCH := Lib.hid hch
    have HH := Lib.hid (HA.out.step hh)
    obtain ⟨c0, c1, c2⟩ := HK.out _ hh
    have HHA := Lib.hid hh
    clear hch hh
    by_cases hlt : q < n
    · obtain ⟨b1, off, s', f', kn', A', n', cap', es', rfl, hb1, hx, x0, x1, x2, x3⟩ := erAt HS.out HH.out (k := q) hlt
      have z2 : (q : Int) < n := by omega
      have z3 : (0 : Int) ≤ q := by omega
      have HC := Lib.hid (asc_at (n := b) (a := at_) hx)
      have SG := Lib.hid (HG.out.at_ hx).1
      have hsb := (HG.out.at_ hx).2
      have HE := Lib.hid (bodyr_any f' kn' A' n' cap' es' B wr (SG.out.held HH.out))
      have HSO := Lib.hid (segOk_code ⟨f', kn', es'⟩)
      have HX := Lib.hid fun (w' : World) (k : Held wr w') => And.intro (k.cell x0) (And.intro (k.cell x1) (And.intro (k.cell x2) (k.cell x3)))
      obtain ⟨bd, hbd⟩ : ∃ bd, body ⟨f', kn', es'⟩ = bd := ⟨_, rfl⟩
      rw [hbd] at HE HSO
      obtain ⟨bl, ec⟩ := bd
      simp only at hsb
      clear hx hb1 hbd
      go_wp2_with fail
      refine HE.out.mono ?_
      rintro e w3 ⟨rfl, h3⟩
      dsimp only
      have HHB := Lib.hid (HHA.out.step h3)
      clear x0 x1 x2 x3 c0 c1 c2
      obtain ⟨c0, c1, c2⟩ := HK.out _ HHB.out
      obtain ⟨x0, x1, x2, x3⟩ := HX.out _ h3
      have k0 := cell_regrown c0
      have k1 := cell_regrown c2
      have k2 := cell_regrown x0
      have H3 := Lib.hid h3
      clear h3 HE
      by_cases hec : ¬ ec = 0
      · have he1 : (ec == 0) = false := by rw [beq_eq_false_iff_ne]; exact hec
        have he2 : (ec != 0) = true := by rw [bne, he1]; rfl
        have HR5 : Is r false := ⟨by rw [HR.out, HCH.out, HC.out]; simp only [SR.g, HSO.out, decide_eq_false hec, Bool.and_false, Bool.false_and]⟩
        clear HR HCH HC hec
        clear c0 c1 c2 x0 x1 x2 x3
        go_upto_region 8 with fail
        refine wp_region_quiet_below (by kernel_rfl) (by kernel_rfl) ?_
        repeat (go_big_quiet_step (fail))
        refine wpQuiet_nil ?_
        intro w5 hw'
        obtain ⟨⟨dq, osq⟩, hw''⟩ := hw'
        have h5 : Held w3 w5 := by rw [hw'']; exact below_regrown w3 dq osq
        clear hw'' k0 k1 k2
        go_wp2
        go_ret
        exact BoolTo.mk HR5.out.symm ((HA.out.step HHB.out).step h5)
      have hec := Decidable.not_not.1 hec
      subst hec
      have HSO2 : Is (segOk ⟨f', kn', es'⟩) true := ⟨by rw [HSO.out]; simp⟩
      by_cases t1 : (s' : Int) ≤ at_
      · have t1d : decide ((s' : Int) ≤ at_) = true := decide_eq_true t1
        have t1n : decide (s' ≤ at_) = true := decide_eq_true (by omega)
        have HR5 : Is r false := ⟨by rw [HR.out, HCH.out, HC.out, decide_eq_false (show ¬ at_ < s' by omega)]; rfl⟩
        clear HR HCH HC HSO
        clear c0 c1 c2 x0 x1 x2 x3
        go_upto_region 8 with fail
        refine wp_region_quiet_below (by kernel_rfl) (by kernel_rfl) ?_
        repeat (go_big_quiet_step (fail))
        refine wpQuiet_nil ?_
        intro w5 hw'
        obtain ⟨⟨dq, osq⟩, hw''⟩ := hw'
        have h5 : Held w3 w5 := by rw [hw'']; exact below_regrown w3 dq osq
        clear hw'' k0 k1 k2
        go_wp2
        go_ret
        exact BoolTo.mk HR5.out.symm ((HA.out.step HHB.out).step h5)
      have t1d : decide ((s' : Int) ≤ at_) = false := decide_eq_false t1
      have t1n : decide (s' ≤ at_) = false := decide_eq_false (by omega)
      have hsw : IntKind.u64.wrap ((s' : Int) - b) = (s' : Int) - b := IntWalk.u64_in _ (by omega)
      by_cases t2 : (8 : Int) ≤ (s' : Int) - b
      · have t2d : decide ((8 : Int) ≤ (s' : Int) - b) = true := decide_eq_true t2
        have HR5 : Is r false := ⟨by rw [HR.out, HCH.out, HC.out, decide_eq_false (show ¬ s' < b + 8 by omega)]; simp⟩
        clear HR HCH HC HSO
        clear c0 c1 c2 x0 x1 x2 x3
        go_upto_region 8 with fail
        refine wp_region_quiet_below (by kernel_rfl) (by kernel_rfl) ?_
        repeat (go_big_quiet_step (fail))
        refine wpQuiet_nil ?_
        intro w5 hw'
        obtain ⟨⟨dq, osq⟩, hw''⟩ := hw'
        have h5 : Held w3 w5 := by rw [hw'']; exact below_regrown w3 dq osq
        clear hw'' k0 k1 k2
        go_wp2
        go_ret
        exact BoolTo.mk HR5.out.symm ((HA.out.step HHB.out).step h5)
      have t2d : decide ((8 : Int) ≤ (s' : Int) - b) = false := decide_eq_false t2
      have HCH2 : Hid (asc b b (ers L) = asc b s' ((ers L).drop (q + 1))) := show asc b b (ers L) = asc b s' ((ers L).drop (q + 1)) by rw [HCH.out, HC.out, decide_eq_true (show at_ < s' by omega), decide_eq_true (show s' < b + 8 by omega)]; simp only [SR.g, HSO2.out, Bool.true_and]
      clear HC HCH HSO
      clear c0 c1 c2 x0 x1 x2 x3
      go_upto_region 8 with fail
      refine wp_region_quiet_below (by kernel_rfl) (by kernel_rfl) ?_
      repeat (go_big_quiet_step (fail))
      refine wpQuiet_nil ?_
      intro w5 hw'
      obtain ⟨⟨dq, osq⟩, hw''⟩ := hw'
      have h5 : Held w3 w5 := by rw [hw'']; exact below_regrown w3 dq osq
      clear hw'' k0 k1 k2
      have HH5 := Lib.hid (HHB.out.step h5)
      obtain ⟨c0, c1, c2⟩ := HK.out _ HH5.out
      have x0 := h5.cell (HX.out w3 H3.out).1
      go_wp2
      go_roundw
      case rel => exact ⟨q + 1, s', rfl, by go_num, by omega, by omega, HCH2.out, HH5.out⟩
      case measure => (simp [RowKit.intOf]) <;> omega
    · obtain rfl : q = n := by omega
      have z2 : ¬ (q : Int) < q := by omega
      have HR5 : Is r true := ⟨by rw [HR.out, HCH.out, asc_end HL.out]⟩
      clear HR HCH
      go_wp2
      go_ret
      exact BoolTo.mk HR5.out.symm HH.out
end St
end Go.Proofs.YthpjbffhdaaibaaGreat

set_option linter.unusedVariables false
set_option linter.unusedSimpArgs false
set_option maxRecDepth 100000
namespace Go.Proofs.YthpjbffhdaaibaaGreat
open Go.RowKit Go.BigFrame Go.Sort Go.Lib
namespace St
open Enc Uv Lg Lgc Strs
set_option maxHeartbeats 1000000 in
theorem openedr_any (s : ByteArray) (m : UInt8) (hs : (s.size : Int) ≤ 1000000000000) (w : World) : Calls Tryz.prog 57 #[.string s, .int .u8 (m.toNat : Int)] w (OpenTo (opened s.data.toList m) w) := by
  have HO := Lib.hid (open_ref_any s hs w)
  have HB : Is (opened s.data.toList m) (opened1 (opens s.data.toList) m) := ⟨rfl⟩
  obtain ⟨o, ho⟩ : ∃ o, opened s.data.toList m = o := ⟨_, rfl⟩
  obtain ⟨p, hp⟩ : ∃ p, opens s.data.toList = p := ⟨_, rfl⟩
  have hpl : p.2.1.length ≤ s.size := by rw [← hp, ← len_eq]; exact opens_len _
  rw [hp] at HO HB
  rw [ho] at HB ⊢
  obtain ⟨n, bd, er⟩ := p
  dsimp only at hpl
  clear hp ho
  go_enter Tryz.func57, Tryz.ntmps57
  go_wp2_with fail
  refine HO.out.mono ?_
  rintro e w2 ⟨rfl, h2⟩
  have W2 := Lib.hid h2
  clear h2 HO
  dsimp only
  by_cases her : ¬ er = 0
  · have her2 : (er == 0) = false := by rw [beq_eq_false_iff_ne]; exact her
    have HB2 : Is o (0, [], false) := ⟨by rw [HB.out]; unfold opened1; rw [if_pos her]⟩
    clear HB
    go_wp2
    go_ret3
    exact OpenTo.mk (by rw [HB2.out]) W2.out
  have her := Decidable.not_not.1 her
  subst her
  cases bd with
  | nil =>
    have hz0 : (⟨([] : List UInt8).toArray⟩ : ByteArray).size = 0 := rfl
    have HB2 : Is o (0, [], false) := ⟨by rw [HB.out]; rfl⟩
    clear HB
    go_wp2
    go_ret3
    exact OpenTo.mk (by rw [HB2.out]) W2.out
  | cons c tl =>
    have HB2 : Is o (if c = m then (n, tl, true) else (0, [], false)) := ⟨by rw [HB.out]; rfl⟩
    clear HB
    obtain ⟨bs, hbs⟩ : ∃ bs : ByteArray, bs = ⟨(c :: tl).toArray⟩ := ⟨_, rfl⟩
    rw [← hbs]
    have hbl : bs.data.toList = c :: tl := by rw [hbs]
    have hsz : bs.size = tl.length + 1 := by rw [← len_eq, hbl]; rfl
    have hne : (bs.toList == []) = false := by rw [ByteArray.toList_eq, hbl]; rfl
    have hpos : (0 : Int) < bs.size := by omega
    have hpz : ((bs.size : Int) == 0) = false := by rw [beq_eq_false_iff_ne]; omega
    have hpz2 : (bs.size == 0) = false := by rw [beq_eq_false_iff_ne]; omega
    have hpos2 : (1 : Int) ≤ bs.size := by omega
    have h0 : bs[0]'(by omega) = c := by
      have : bs.data.toList[0]'(by rw [hbl]; exact Nat.zero_lt_succ _) = c := by simp [hbl]
      rw [Array.getElem_toList] at this
      exact this
    clear hbs
    by_cases hc : c = m
    · have HB3 : Is o (n, tl, true) := ⟨by rw [HB2.out, if_pos hc]⟩
      clear HB2
      go_wp2
      go_region
      go_wp2
      go_ret3
      exact OpenTo.mk (by rw [HB3.out, ← hsz, ext_drop, hbl]; rfl) W2.out.drew
    · have HB3 : Is o (0, [], false) := ⟨by rw [HB2.out, if_neg hc]⟩
      have hcb : (c == m) = false := by rw [beq_eq_false_iff_ne]; exact hc
      have hcn : ¬ c.toNat = m.toNat := fun e => hc (UInt8.toNat_inj.1 e)
      have hcz : ((c.toNat : Int) == m.toNat) = false := by rw [beq_eq_false_iff_ne]; omega
      have hcx : ((c.toNat : Int) != m.toNat) = true := by rw [bne, hcz]; rfl
      clear HB2
      go_wp2
      go_ret3
      exact OpenTo.mk (by rw [HB3.out]) W2.out
theorem wholer_any (s : ByteArray) (hs : (s.size : Int) ≤ 1000000000) (w : World) : Calls Tryz.prog 58 #[.string s] w fun e w' => e = .returned (.tuple #[.int .u64 (Uv.uvX s.data.toList), .bool (Uv.uvB s.data.toList && decide (Uv.uvN s.data.toList = s.data.toList.length))]) ∧ w = w' := by
  have hu := Lib.hid (fun w => Strs.uv_ref_any s (by omega) w)
  rw [len_eq]
  generalize Uv.uvX s.data.toList = x at *
  generalize Uv.uvN s.data.toList = m at *
  cases hb : Uv.uvB s.data.toList
  · rw [hb] at hu
    go_enter Tryz.func58, Tryz.ntmps58
    go_wp2_with (first | (go_at_call 46; refine (hu.out _).mono ?_; rintro e w2 ⟨rfl, rfl⟩))
    go_ret2
    exact ⟨rfl, rfl⟩
  · rw [hb] at hu
    by_cases hm : m = s.size
    · have hm' : ((m : Int) == (s.size : Int)) = true := by simp [hm]
      rw [decide_eq_true hm]
      clear hm
      go_enter Tryz.func58, Tryz.ntmps58
      go_wp2_with (first | (go_at_call 46; refine (hu.out _).mono ?_; rintro e w2 ⟨rfl, rfl⟩))
      go_ret2
      exact ⟨rfl, rfl⟩
    · have hm' : ((m : Int) == (s.size : Int)) = false := by simp; omega
      rw [decide_eq_false hm]
      clear hm
      go_enter Tryz.func58, Tryz.ntmps58
      go_wp2_with (first | (go_at_call 46; refine (hu.out _).mono ?_; rintro e w2 ⟨rfl, rfl⟩))
      go_ret2
      exact ⟨rfl, rfl⟩
set_option maxHeartbeats 1000000 in
theorem replyr_any (b kn : Nat) (A : Option Addr) (n cap : Nat) (L : List ErR) (B : Nat) (w : World) (h : Sl 4 erC w A n L) (hg : Ers B w L) (hn : n ≤ 1000000) (hb : (b : Int) ≤ 18446744073709551615) (hk : (kn : Int) ≤ 18446744073709551615) :
    Calls Tryz.prog 18 #[.agg #[.int .u64 b, .int .u64 kn, .slice A n cap]] w (MakesS (reply ⟨b, kn, ers L⟩) w) := by
  have HA := Lib.hid ((Held.refl w).alloc (.cells #[.int .u64 b, .int .u64 kn, .slice A n cap] 31))
  have H1 := Lib.hid (receiver_any b kn A n cap L B (w.alloc (.cells #[.int .u64 b, .int .u64 kn, .slice A n cap] 31)) (h.held HA.out) (fun x hx => ⟨((hg x hx).1.held HA.out), (hg x hx).2⟩) hn)
  have HK := Lib.hid fun (w' : World) (k : Held (w.alloc (.cells #[.int .u64 b, .int .u64 kn, .slice A n cap] 31)) w') => And.intro (Bx.cell (Bx.held (Bx.new w _) k) 0 rfl) (Bx.cell (Bx.held (Bx.new w _) k) 1 rfl)
  have HB : Is (reply ⟨b, kn, ers L⟩) (if receiving ⟨b, kn, ers L⟩ = true then packed b (65 :: put kn) else []) := ⟨rfl⟩
  obtain ⟨r, hr⟩ : ∃ r, reply ⟨b, kn, ers L⟩ = r := ⟨_, rfl⟩
  obtain ⟨v, hv⟩ : ∃ v, receiving ⟨b, kn, ers L⟩ = v := ⟨_, rfl⟩
  rw [hv] at H1 HB
  rw [hr] at HB ⊢
  have lp := put_len kn (by omega)
  have P1 := Lib.hid fun w => put_ref_any kn hk w
  have P2 := Lib.hid fun w => pack_ref_any b (⟨#[65]⟩ ++ ⟨(put kn).toArray⟩) hb (by rw [mark_size]; omega) w
  rw [mark_list] at P2
  generalize put kn = p at P1 P2 HB lp
  obtain ⟨q, hq⟩ : ∃ q, packed b (65 :: p) = q := ⟨_, rfl⟩
  rw [hq] at P2 HB
  clear hr hv hq h hg
  go_enter Tryz.func18, Tryz.ntmps18
  go_wp2_with fail
  refine H1.out.mono ?_
  rintro e w2 ⟨rfl, h2⟩
  obtain ⟨c0, c1⟩ := HK.out _ h2
  have W2 := Lib.hid (HA.out.step h2)
  clear h2 H1
  cases v
  · have HB2 : Is r [] := ⟨HB.out⟩
    clear HB
    go_wp2
    go_ret
    exact ⟨by rw [HB2.out]; rfl, W2.out⟩
  · have HB2 : Is r q := ⟨HB.out⟩
    clear HB
    go_wp2
    have k0 := cell_regrown c0
    have k1 := cell_regrown c1
    have cA := Lib.hid fun d os => Calls.regrown_of (d := d) (os := os) (P1.out (grow (redrawn w2 d) os))
    have cB := Lib.hid fun d os => Calls.regrown_of (d := d) (os := os) (P2.out (grow (redrawn w2 d) os))
    clear c0 c1
    refine wp_region_quiet_below (by kernel_rfl) (by kernel_rfl) ?_
    repeat (go_big_quiet_step (first | (go_at_call 40; with_reducible exact cA.out _ _) | (go_at_call 52; first | (with_reducible exact cB.out _ _) | exact cB.out _ _)))
    refine wpQuiet_nil ?_
    intro _ hw'
    obtain ⟨⟨dq, osq⟩, hw''⟩ := hw'
    subst hw''
    have W3 := Lib.hid (W2.out.step (below_regrown w2 dq osq))
    clear k0 k1 cA cB
    go_wp2
    go_ret
    exact ⟨by rw [HB2.out]; rfl, W3.out⟩
set_option maxHeartbeats 1000000 in
theorem packetsr_any (b t kn : Nat) (A : Option Addr) (n cap : Nat) (L : List SR) (B : Nat) (w : World) (h : Sl 3 segC w A n L) (hg : Sgs B w L) (hn : n ≤ 1000000) :
    Calls Tryz.prog 21 #[.agg #[.int .u64 b, .int .u64 t, .int .u64 kn, .slice A n cap]] w (StrsTo (packets ⟨b, t, kn, gs L⟩) w) := by
  have HS := Lib.hid h
  have HG := Lib.hid hg
  have HL : Is L.length n := ⟨h.1⟩
  have hn2 : (n : Int) ≤ 1000000 := by omega
  have HA := Lib.hid ((Held.refl w).alloc (.cells #[.int .u64 b, .int .u64 t, .int .u64 kn, .slice A n cap] 28))
  have H1 := Lib.hid (sendr_any b t kn A n cap L B (w.alloc (.cells #[.int .u64 b, .int .u64 t, .int .u64 kn, .slice A n cap] 28)) (h.held HA.out) (hg.held HA.out) hn)
  have M0 := Lib.hid ((Mem.start w).alloc' (b := w.heap.size) rfl #[.int .u64 b, .int .u64 t, .int .u64 kn, .slice A n cap] 28)
  have HB : Is (packets ⟨b, t, kn, gs L⟩) (if sending ⟨b, t, kn, gs L⟩ = true then packs b (gs L) else []) := ⟨rfl⟩
  obtain ⟨r, hr⟩ : ∃ r, packets ⟨b, t, kn, gs L⟩ = r := ⟨_, rfl⟩
  obtain ⟨v, hv⟩ : ∃ v, sending ⟨b, t, kn, gs L⟩ = v := ⟨_, rfl⟩
  have HSB : Hid (v = true → b ≤ 4611686018427387904) := fun e => by
    have h := hv.trans e
    unfold sending at h
    simp only [Bool.and_eq_true, decide_eq_true_eq] at h
    exact h.1.1.2
  rw [hv] at H1 HB
  rw [hr] at HB ⊢
  clear hr hv h hg
  go_enter Tryz.func21, Tryz.ntmps21
  go_wp2_with fail
  refine H1.out.mono ?_
  rintro e w2 ⟨rfl, h2⟩
  have M2 := Lib.hid (M0.out.keep h2)
  clear h2 H1 M0
  obtain ⟨⟨c0, c1, c2, c3⟩, _, hl0⟩ := M2.out.box4 0 rfl
  cases v
  · have HB2 : Is r [] := ⟨HB.out⟩
    clear HB
    go_wp2
    go_ret
    exact ⟨none, 0, 0, rfl, by rw [HB2.out]; exact Own.nil w2, M2.out.held⟩
  have HB2 : Is r (packs b (gs L)) := ⟨HB.out⟩
  have hbb := HSB.out rfl
  clear HB
  go_wp2
  have M3 := Lib.hid (M2.out.nilRow (e := 9) (s := 1) (f := stC))
  go_loopw [3, 4] (fun v i wr => ∃ q : Nat, i = .int .i64 (q : Int) ∧ q ≤ n ∧ Mem w wr [.box w.heap.size #[.int .u64 b, .int .u64 t, .int .u64 kn, .slice A n cap] 28, .row 9 1 stC w.heap.size v (strs (packs b (gs (L.take q))))]) (fun _ i _ => n - (RowKit.intOf i).toNat)
  case atStart => exact ⟨0, rfl, Nat.zero_le _, M3.out⟩
  case round =>
    obtain ⟨q, rfl, hq, hM⟩ := hrel
    obtain ⟨A2, cap2, rfl, hcap2, _⟩ := (hM.row 1 rfl).shape
    have hlq : (strs (packs b (gs (L.take q)))).length = q := by unfold strs; rw [List.length_map, packs_len, gs_len, List.length_take, HL.out]; omega
    have HLQ : Is (strs (packs b (gs (L.take q)))).length q := ⟨hlq⟩
    have M := Lib.hid hM
    rw [hlq] at M hcap2 ⊢
    clear hM hlq M2 M3 c0 c1 c2 c3 hl0
    obtain ⟨⟨c0, c1, c2, c3⟩, _, hl0⟩ := M.out.box4 0 rfl
    by_cases hlt : q < n
    · obtain ⟨b1, off, f', kn', A', n', cap', es', rfl, hb1, hx, x0, x1, x2⟩ := segAt HS.out M.out.held (k := q) hlt
      have z2 : (q : Int) < n := by omega
      have z3 : (0 : Int) ≤ q := by omega
      have SG := Lib.hid (HG.out.at_ hx)
      have HX := Lib.hid hx
      have hnx : Hid (strs (packs b (gs (L.take (q + 1)))) = strs (packs b (gs (L.take q))) ++ [⟨(dataP (b + q) ⟨f', kn', es'⟩).toArray⟩]) := by
        obtain ⟨hql, hxe⟩ := List.getElem?_eq_some_iff.1 hx
        show _ = _
        rw [List.take_succ_eq_append_getElem hql, hxe]
        unfold gs
        rw [List.map_append, List.map_singleton, packs_snoc]
        unfold strs
        rw [List.map_append, List.map_singleton, List.length_map, List.length_take, Nat.min_eq_left (by omega)]; rfl
      have M2 := Lib.hid M.out
      have HE := Lib.hid (bodyr_any f' kn' A' n' cap' es' B wr (SG.out.held M2.out.held))
      have hbl := body_len ⟨f', kn', es'⟩ ⟨SG.out.f, SG.out.kn, SG.out.ok⟩
      have HD : Is (dataP (b + q) ⟨f', kn', es'⟩) (packed (b + q) (68 :: (body ⟨f', kn', es'⟩).1)) := ⟨rfl⟩
      obtain ⟨bo, hbo⟩ : ∃ bo, body ⟨f', kn', es'⟩ = bo := ⟨_, rfl⟩
      rw [hbo] at HE hbl HD
      obtain ⟨bt, be⟩ := bo
      have P2 := fun w => pack_ref_any (b + q) (⟨#[68]⟩ ++ ⟨bt.toArray⟩) (by omega) (by rw [mark_size]; simp only at hbl; omega) w
      rw [mark_list, ← HD.out] at P2
      simp only [Int.natCast_add] at P2
      have HP2 := Lib.hid P2
      obtain ⟨dp, hdp⟩ : ∃ dp, dataP (b + q) ⟨f', kn', es'⟩ = dp := ⟨_, rfl⟩
      rw [hdp] at HP2 hnx
      clear hx hb1 hbo HD P2 hdp
      simp only at hbl
      go_wp2_with fail
      refine HE.out.mono ?_
      rintro e w3 ⟨rfl, h3⟩
      have M3 := Lib.hid (M2.out.keep h3)
      clear h3 HE M2 M x0 x1 x2 c0 c1 c2 c3 hl0
      obtain ⟨⟨c0, c1, c2, c3⟩, _, hl0⟩ := M3.out.box4 0 rfl
      go_wp2_with fail
      refine (HP2.out _).mono ?_
      rintro e w4 ⟨rfl, h4⟩
      have M4 := Lib.hid ((M3.out.keep h4).skip (.cells #[.string ⟨dp.toArray⟩] 9))
      clear h4 HP2 M3 c0 c1 c2 c3 hl0
      go_wp2_with (at_builtin; refine Mem.wp_app M4.out 1 rfl rfl _ _ _ rfl _ 16 Tryz.underlying45 info_str rfl (by decide) stC_len stC_one ⟨dp.toArray⟩ ⟨w4.heap.size, 0, none⟩ 1 rfl rfl (cells_new _ rfl _ _) q HLQ.out (by omega) (by decide) ?_; intro g5 cp5 w5 M5'; have M5 := Lib.hid M5'; clear M5')
      go_roundw
      case rel =>
        refine ⟨q + 1, by go_num, by omega, ?_⟩
        rw [hnx.out]
        exact M5.out
      case measure => (simp [RowKit.intOf]) <;> omega
    · obtain rfl : q = n := by omega
      have z2 : ¬ (q : Int) < q := by omega
      have htk : L.take q = L := List.take_of_length_le (by rw [HL.out]; exact Nat.le_refl _)
      rw [htk] at M HLQ
      clear htk
      go_wp2
      go_ret
      refine ⟨A2, q, cap2, rfl, ?_, M.out.held⟩
      rw [HB2.out]
      exact M.out.row 1 rfl
end St
end Go.Proofs.YthpjbffhdaaibaaGreat

set_option linter.unusedVariables false
set_option linter.unusedSimpArgs false
set_option maxRecDepth 100000
namespace Go.Proofs.YthpjbffhdaaibaaGreat
open Go.RowKit Go.BigFrame Go.Sort Go.Lib
namespace Mem
variable {W w : World} {H : List Ck} {α : Type} {e : TypeId} {s : Nat} {f : α → List Value}
/-- Append of a list, wherever it lies; it tells what grew. -/
theorem catC_run (h : Mem W w H) (i : Nat) {A0 : Option Addr} {n cap0 : Nat} {L : List α} (hi : H[i]? = some (.row e s f W.heap.size (.slice A0 n cap0) L)) {P : Program} (ty t : TypeId) (z : Value) (bytes : Nat) (ht : P.underlying t = some (.slice e)) (hinfo : (P.info? e).map (fun i => (i.zero, i.size, i.bytes)) = some (some z, s, bytes))
    (hzs : z.cells.size = s) (hs0 : 0 < s) (hf : ∀ x, (f x).length = s) (hf1 : ∀ x, ∀ u ∈ f x, u.oneCell' = true) (M : List α) (A : Option Addr) (m c : Nat) (hsl : Sl s f w A m M) (hn : L.length = n) (hb : (n + m) * bytes ≤ 140737488355328) (hb1 : 1 ≤ bytes) :
    ∃ A' cap' w', (Builtin.append_ #[t, t] ty #[.slice A0 n cap0, .slice A m c]).run P w = .ok (.slice A' (n + m) cap') w' ∧ Mem W w' (H.set i (.row e s f W.heap.size (.slice A' (n + m) cap') (L ++ M))) ∧ (∀ T B, e ≠ T → B ≤ W.heap.size → Chg T B w w' (Value.slice A0 n cap0).ownBlock) := by
  by_cases hm : m = 0
  · subst hm
    obtain ⟨i0, hi0, hz0, hz1, hz2⟩ := info_parts hinfo
    have hM : M = [] := List.eq_nil_of_length_eq_zero hsl.1
    subst hM
    have hsrc : Src P i0.size t (.slice A 0 c) 0 [] w := by
      cases A with
      | none => exact Src.ofNil w ht c
      | some ad => exact Src.ofSlice w ht ad 0 c [] (by simp) (by simp) (by simp)
    refine ⟨A0, cap0, w, run_append_nothing w t t ty e i0 ht hi0 A0 n cap0 (Own.cap (h.row i hi)) _ hsrc, ?_, fun T B hT hB => Chg.own (h.row i hi) hT hB (Lgc.grown_refl w _)⟩
    rw [List.append_nil]
    obtain ⟨li, hli⟩ := List.getElem?_eq_some_iff.1 hi
    have : H.set i (.row e s f W.heap.size (.slice A0 (n + 0) cap0) L) = H := by
      rw [Nat.add_zero, ← hli]; exact List.set_getElem_self li
    rw [this]; exact h
  · rcases hsl.2 with h0 | ⟨b, off, rfl, hlt, hc⟩
    · exact absurd h0 hm
    · subst hn
      obtain ⟨i0, hi0, hz0, hz1, hz2⟩ := info_parts hinfo
      have hlen : L.length + m ≤ 140737488355328 := Nat.le_trans (Nat.le_mul_of_pos_right _ hb1) hb
      have hfl : (M.flatMap f).length = m * s := by rw [flat_len hf, hsl.1]
      obtain ⟨g, cap, w', hr, h2, h3, h4, h5⟩ := run_append_lies (P := P) w t ty W.heap.size e i0 z s bytes ht hi0 hz0 hz1 hz2 hzs hs0 _ L.length (L.flatMap f) (h.row i hi) ⟨b, off, none⟩ m c (M.flatMap f) hfl (Sl.flat hf hs0 hsl) (fun u hu => by
        rw [List.mem_flatMap] at hu
        obtain ⟨y, _, hy⟩ := hu
        exact hf1 y u hy) (by omega) (by unfold maxLen; omega) hb h.le w.heap.size rfl
      refine ⟨_, cap, w', hr, h.app i hi h3 ?_ (fun b hb' => ?_), fun T B hT hB => Chg.own (h.row i hi) hT hB h3⟩
      · unfold Own
        rw [List.flatMap_append, List.length_append, hsl.1]
        exact h2
      · simp only [Value.ownBlock] at hb'
        injection hb' with hb'
        subst hb'
        exact h4.imp id (fun h => by omega)
theorem step_catC (h : Mem W w H) (i : Nat) {A0 : Option Addr} {n cap0 : Nat} {L : List α} (hi : H[i]? = some (.row e s f W.heap.size (.slice A0 n cap0) L)) {P : Program} {ops : Array Oper} {o : Oper} {a : Act} {K : Act → World → Prop} {Q : Exit → Act → World → Prop} {E : Prop} (hgd : o.guard = none) (sl x : Operand) (t : TypeId)
    (ho : o.op = .call { callee := .builtin .append, args := #[sl, x], argTypes := #[t, t] }) (z : Value) (bytes : Nat) (ht : P.underlying t = some (.slice e)) (hinfo : (P.info? e).map (fun i => (i.zero, i.size, i.bytes)) = some (some z, s, bytes))
    (hzs : z.cells.size = s) (hs0 : 0 < s) (hf : ∀ x, (f x).length = s) (hf1 : ∀ x, ∀ u ∈ f x, u.oneCell' = true) (M : List α) (A : Option Addr) (m c : Nat)
    (hs : a.eval sl = .slice A0 n cap0) (hx : a.eval x = .slice A m c) (hsl : Sl s f w A m M) (hn : L.length = n) (hb : (n + m) * bytes ≤ 140737488355328) (hb1 : 1 ≤ bytes)
    (k : ∀ A' cap' w', Mem W w' (H.set i (.row e s f W.heap.size (.slice A' (n + m) cap') (L ++ M))) → (∀ T B, e ≠ T → B ≤ W.heap.size → Chg T B w w' (Value.slice A0 n cap0).ownBlock) → K (a.put o.dst (.slice A' (n + m) cap')) w') :
    if Region.wanted o (yielded ops a.tmps) = true then Oper.wp P o a w K Q else E := by
  have hw : Region.wanted o (yielded ops a.tmps) = true := by simp [Region.wanted, hgd]
  rw [if_pos hw]
  obtain ⟨A', cap', w', hr, hM, hA⟩ := h.catC_run i hi (P := P) o.type t z bytes ht hinfo hzs hs0 hf hf1 M A m c hsl hn hb hb1
  unfold Oper.wp execOp
  simp only [ho, resolve, invoke, builtin, Sem.run_bind, Sem.run_pure, Result.andThen_ok, List.map_toArray, List.map_cons, List.map_nil, hs, hx, hr]
  exact k A' cap' w' hM hA
end Mem
end Go.Proofs.YthpjbffhdaaibaaGreat

set_option linter.unusedVariables false
set_option linter.unusedSimpArgs false
set_option maxRecDepth 100000
namespace Go.Proofs.YthpjbffhdaaibaaGreat
open Go.RowKit Go.BigFrame Go.Sort Go.Lib
namespace St
open Enc Uv Lg Lgc Strs
/-- A call hands back a sender that can be read, and a word. -/
def SndR (B : Nat) (S : Snd) (x : Value) (w : World) (e : Ending) (w' : World) : Prop := ∃ A n cap R, e = .returned (.tuple #[.agg #[.int .u64 S.b, .int .u64 S.t, .int .u64 S.kn, .slice A n cap], x]) ∧ gs R = S.q ∧ Sl 3 segC w' A n R ∧ Sgs B w' R ∧ Held w w'
theorem SndR.mk {B b t kn : Nat} {S : Snd} {x x' : Value} {w w' : World} {A : Option Addr} {n cap : Nat} {R : List SR} (hS : S = ⟨b, t, kn, gs R⟩) (hx : x' = x) (h1 : Sl 3 segC w' A n R) (h2 : Sgs B w' R) (h3 : Held w w') :
    SndR B S x w (.returned (.tuple #[.agg #[.int .u64 b, .int .u64 t, .int .u64 kn, .slice A n cap], x'])) w' := by
  subst hS hx; exact ⟨A, n, cap, R, rfl, rfl, h1, h2, h3⟩
theorem sending_len {S : Snd} (h : sending S = true) : S.q.length ≤ 8 := by
  unfold sending at h
  simp only [Bool.and_eq_true, decide_eq_true_eq] at h
  exact h.1.2
theorem box_news {w : World} {b : Nat} {cs : Array Value} {T : TypeId} (h : w.heap[b]? = some (.cells cs T (0, 0))) : ∀ j u, cs.toList[j]? = some u → w.cell? ((⟨b, 0, none⟩ : Addr).add j) = some u := by
  intro j u hu
  rw [addr_add]
  simp only [Nat.zero_add]
  exact Bx.cell h j (by simpa using hu)
set_option maxHeartbeats 8000000 in
theorem pushr_any (b t kn : Nat) (A : Option Addr) (n cap : Nat) (L : List SR) (f k2 : Nat) (A' : Option Addr) (n' cap' : Nat) (es : List Ent) (B : Nat) (w : World) (h : Sl 3 segC w A n L) (hg : Sgs B w L) (hn : n ≤ 1000000) (hs : Sg B w ⟨f, k2, A', n', cap', es⟩) :
    Calls Tryz.prog 23 #[.agg #[.int .u64 b, .int .u64 t, .int .u64 kn, .slice A n cap], .agg #[.int .u64 f, .int .u64 k2, .slice A' n' cap']] w (SndR B (push ⟨b, t, kn, gs L⟩ ⟨f, k2, es⟩).1 (.int .i64 (push ⟨b, t, kn, gs L⟩ ⟨f, k2, es⟩).2) w) := by
  have HS := Lib.hid h
  have HG := Lib.hid hg
  have HSG := Lib.hid hs
  have HL : Is L.length n := ⟨h.1⟩
  have hn2 : (n : Int) ≤ 1000000 := by omega
  have M0 := Lib.hid ((((Mem.start w).alloc' (b := w.heap.size) rfl #[.int .u64 b, .int .u64 t, .int .u64 kn, .slice A n cap] 28).alloc' (b := w.heap.size + 1) (by simp) #[.int .u64 f, .int .u64 k2, .slice A' n' cap'] 25).alloc' (b := w.heap.size + 1 + 1) (by simp) #[.int .u64 0, .int .u64 0, .int .u64 0, .slice none 0 0] 28)
  have H1 := Lib.hid (sendr_any b t kn A n cap L B _ (h.held M0.out.held) (hg.held M0.out.held) hn)
  have HB : Is (push ⟨b, t, kn, gs L⟩ ⟨f, k2, es⟩) (if (decide (f ≠ t) || !sending ⟨b, t, kn, gs L⟩) = true then (⟨b, t, kn, gs L⟩, 2400) else if (logOf ⟨f, k2, es⟩).2 ≠ 0 then (⟨b, t, kn, gs L⟩, (logOf ⟨f, k2, es⟩).2) else if 8 ≤ (gs L).length then (⟨b, t, kn, gs L⟩, 2401) else (⟨b, k2, kn, gs L ++ [⟨f, k2, es⟩]⟩, 0)) := ⟨rfl⟩
  have hcode := body_code ⟨f, k2, es⟩
  have hsl : sending ⟨b, t, kn, gs L⟩ = true → n ≤ 8 := fun e => by have := sending_len e; simp only [gs_len, HL.out] at this; exact this
  obtain ⟨pu, hpu⟩ : ∃ pu, push ⟨b, t, kn, gs L⟩ ⟨f, k2, es⟩ = pu := ⟨_, rfl⟩
  obtain ⟨v, hv⟩ : ∃ v, sending ⟨b, t, kn, gs L⟩ = v := ⟨_, rfl⟩
  rw [hpu] at HB ⊢
  rw [hv] at HB H1 hsl
  rw [← hcode] at HB
  have HSL := Lib.hid hsl
  have HGL : Is (gs L).length n := ⟨by rw [gs_len]; exact h.1⟩
  rw [HGL.out] at HB
  clear hpu hv hcode hsl h hg hs
  go_enter Tryz.func23, Tryz.ntmps23
  go_wp2_with fail
  refine H1.out.mono ?_
  rintro e w2 ⟨rfl, h2⟩
  have M2 := Lib.hid (M0.out.keep h2)
  clear h2 H1 M0
  obtain ⟨⟨c0, c1, c2, c3⟩, ⟨cf0, cf1, cf2, cf3⟩, cl⟩ := M2.out.box4 0 rfl
  obtain ⟨⟨g0, g1, g2⟩, _, gl⟩ := M2.out.box3 1 rfl
  obtain ⟨_, ⟨rf0, rf1, rf2, rf3⟩, rl⟩ := M2.out.box4 2 rfl
  have MF0 := Lib.hid (M2.out.put4 2 rfl (.int .u64 b) (.int .u64 t) (.int .u64 kn) (.slice A n cap))
  by_cases hbad : ¬ (v = true ∧ f = t)
  · have HP : Is pu (⟨b, t, kn, gs L⟩, 2400) := ⟨by rw [HB.out, if_pos]; cases v <;> simp_all⟩
    clear HB
    cases v
    · clear hbad
      go_wp2
      refine bodyPost_ret (Bx.res_ct Tryz.results23 rfl (snd_load (MF0.out.blk 2 rfl))) rfl ?_
      exact SndR.mk (by rw [HP.out]) (by rw [HP.out]; rfl) (HS.out.held MF0.out.held) (HG.out.held MF0.out.held) MF0.out.held
    · have hft : ¬ f = t := fun e => hbad ⟨rfl, e⟩
      have e1 : ((f : Int) == t) = false := by rw [beq_eq_false_iff_ne]; omega
      have e2 : (f == t) = false := by rw [beq_eq_false_iff_ne]; exact hft
      clear hbad hft
      go_wp2
      refine bodyPost_ret (Bx.res_ct Tryz.results23 rfl (snd_load (MF0.out.blk 2 rfl))) rfl ?_
      exact SndR.mk (by rw [HP.out]) (by rw [HP.out]; rfl) (HS.out.held MF0.out.held) (HG.out.held MF0.out.held) MF0.out.held
  obtain ⟨rfl, rfl⟩ := Decidable.not_not.1 hbad
  have HB2 : Is pu (if (body ⟨f, k2, es⟩).2 ≠ 0 then (⟨b, f, kn, gs L⟩, (body ⟨f, k2, es⟩).2) else if 8 ≤ n then (⟨b, f, kn, gs L⟩, 2401) else (⟨b, k2, kn, gs L ++ [⟨f, k2, es⟩]⟩, 0)) := ⟨by rw [HB.out, if_neg (by simp)]⟩
  have hn8 := HSL.out rfl
  have HE := Lib.hid (bodyr_any f k2 A' n' cap' es B w2 (HSG.out.held M2.out.held))
  obtain ⟨bd, hbd⟩ : ∃ bd, body ⟨f, k2, es⟩ = bd := ⟨_, rfl⟩
  rw [hbd] at HE HB2
  obtain ⟨bl, ec⟩ := bd
  simp only at HB2
  clear HB hbd hbad
  go_wp2_with fail
  refine HE.out.mono ?_
  rintro e w3 ⟨rfl, h3⟩
  dsimp only
  have M3 := Lib.hid (M2.out.keep h3)
  clear h3 HE M2 MF0 c0 c1 c2 c3 cf0 cf1 cf2 cf3 cl g0 g1 g2 gl rf0 rf1 rf2 rf3 rl
  obtain ⟨⟨c0, c1, c2, c3⟩, ⟨cf0, cf1, cf2, cf3⟩, cl⟩ := M3.out.box4 0 rfl
  obtain ⟨⟨g0, g1, g2⟩, _, gl⟩ := M3.out.box3 1 rfl
  obtain ⟨_, ⟨rf0, rf1, rf2, rf3⟩, rl⟩ := M3.out.box4 2 rfl
  have MF0 := Lib.hid (M3.out.put4 2 rfl (.int .u64 b) (.int .u64 f) (.int .u64 kn) (.slice A n cap))
  by_cases hec : ¬ ec = 0
  · have e1 : (ec == 0) = false := by rw [beq_eq_false_iff_ne]; exact hec
    have e2 : (ec != 0) = true := by rw [bne, e1]; rfl
    have HP : Is pu (⟨b, f, kn, gs L⟩, ec) := ⟨by rw [HB2.out, if_pos hec]⟩
    clear HB2 hec
    go_wp2
    refine bodyPost_ret (Bx.res_ct Tryz.results23 rfl (snd_load (MF0.out.blk 2 rfl))) rfl ?_
    exact SndR.mk (by rw [HP.out]) (by rw [HP.out]; rfl) (HS.out.held MF0.out.held) (HG.out.held MF0.out.held) MF0.out.held
  have hec := Decidable.not_not.1 hec
  subst hec
  by_cases h8 : n = 8
  · have e1 : ((n : Int) == 8) = true := by simp [h8]
    have HP : Is pu (⟨b, f, kn, gs L⟩, 2401) := ⟨by rw [HB2.out, if_neg (by simp), if_pos (by omega)]⟩
    subst h8
    clear HB2
    go_wp2
    refine bodyPost_ret (Bx.res_ct Tryz.results23 rfl (snd_load (MF0.out.blk 2 rfl))) rfl ?_
    exact SndR.mk (by rw [HP.out]) (by rw [HP.out]; rfl) (HS.out.held MF0.out.held) (HG.out.held MF0.out.held) MF0.out.held
  have e1 : ((n : Int) == 8) = false := by rw [beq_eq_false_iff_ne]; omega
  have e2 : (n == 8) = false := by rw [beq_eq_false_iff_ne]; exact h8
  have HP : Is pu (⟨b, k2, kn, gs L ++ [⟨f, k2, es⟩]⟩, 0) := ⟨by rw [HB2.out, if_neg (by simp), if_neg (by omega)]⟩
  clear HB2 MF0 h8
  have HSL3 := Lib.hid (HS.out.held M3.out.held)
  have MA := Lib.hid ((M3.out.emptyRow (e := 25) (s := 3) (f := segC) (b := w3.heap.size) rfl).drew)
  have MB := Lib.hid (((M3.out.emptyRow (e := 25) (s := 3) (f := segC) (b := w3.heap.size) rfl).alloc' (b := w3.heap.size + 1) (by simp) #[.int .u64 f, .int .u64 k2, .slice A' n' cap'] 25).drew)
  have MC := Lib.hid (((M3.out.alloc #[.int .u64 f, .int .u64 k2, .slice A' n' cap'] 25).emptyRow (e := 25) (s := 3) (f := segC) (b := w3.heap.size + 1) (by simp)).drew)
  have HK3 := Lib.hid fun w' (k : Held w3 w') => And.intro (k.cell c3) (And.intro (k.cell g0) (And.intro (k.cell g1) (k.cell g2)))
  go_upto_region 8 with fail
  go_cut [] (fun wx => ∃ A9 c9, Mem w wx [.box w.heap.size #[.int .u64 b, .int .u64 f, .int .u64 kn, .slice A9 (n + 1) c9] 28, .box (w.heap.size + 1) #[.int .u64 f, .int .u64 k2, .slice A' n' cap'] 25, .box (w.heap.size + 1 + 1) #[.int .u64 0, .int .u64 0, .int .u64 0, .slice none 0 0] 28, .row 25 3 segC w.heap.size (.slice A9 (n + 1) c9) (L ++ [⟨f, k2, A', n', cap', es⟩])])
  case first =>
    go_region_law (first
      | (refine Mem.step_appC M8A.out 3 rfl (by rfl) _ _ _ (by rfl) _ 40 Tryz.underlying26 info_seg (by rfl) (by decide) segC_len segC_one ⟨f, k2, A', n', cap', es⟩ ⟨w8.heap.size, 0, none⟩ 1 (by rfl) (by rfl) (cells_new _ rfl _ _) n HL.out (by omega) (by decide) ?_; intro g9 c9 w9 M9' k9; have M9A := Lib.hid M9'; obtain ⟨⟨c0, c1, c2, c3⟩, ⟨cf0, cf1, cf2, cf3⟩, cl⟩ := M9'.box4 0 rfl; clear M9' k9)
      | (refine Mem.step_appC M8B.out 3 rfl (by rfl) _ _ _ (by rfl) _ 40 Tryz.underlying26 info_seg (by rfl) (by decide) segC_len segC_one ⟨f, k2, A', n', cap', es⟩ ⟨w3.heap.size + 1, 0, none⟩ 1 (by rfl) (by rfl) (box_news (M8B.out.blk 4 rfl)) n HL.out (by omega) (by decide) ?_; intro g9 c9 w9 M9' k9; have M9B := Lib.hid M9'; obtain ⟨⟨c0, c1, c2, c3⟩, ⟨cf0, cf1, cf2, cf3⟩, cl⟩ := M9'.box4 0 rfl; clear M9' k9)
      | (refine Mem.step_appC M8C.out 4 rfl (by rfl) _ _ _ (by rfl) _ 40 Tryz.underlying26 info_seg (by rfl) (by decide) segC_len segC_one ⟨f, k2, A', n', cap', es⟩ ⟨w3.heap.size, 0, none⟩ 1 (by rfl) (by rfl) (box_news (M8C.out.blk 3 rfl)) n HL.out (by omega) (by decide) ?_; intro g9 c9 w9 M9' k9; have M9C := Lib.hid M9'; obtain ⟨⟨c0, c1, c2, c3⟩, ⟨cf0, cf1, cf2, cf3⟩, cl⟩ := M9'.box4 0 rfl; clear M9' k9)
      | (refine Mem.step_catC MA.out 3 rfl (by rfl) _ _ _ (by rfl) _ 40 Tryz.underlying26 info_seg (by rfl) (by decide) segC_len segC_one L A n cap (by rfl) (by rfl) (HSL3.out.held ((Held.refl w3).alloc _).drew) rfl (by omega) (by decide) ?_; intro A8 c8 w8 M8' k8; simp only [Nat.zero_add, List.nil_append] at M8' ⊢; have M8A := Lib.hid (M8'.alloc #[.int .u64 f, .int .u64 k2, .slice A' n' cap'] 25); obtain ⟨⟨c0', c1', c2', c3'⟩, ⟨cf0', cf1', cf2', cf3'⟩, cl'⟩ := M8A.out.box4 0 rfl; obtain ⟨⟨c0, c1, c2, c3⟩, ⟨cf0, cf1, cf2, cf3⟩, cl⟩ := M8'.box4 0 rfl; obtain ⟨⟨g0, g1, g2⟩, _, gl⟩ := M8'.box3 1 rfl; clear M8' k8)
      | (refine Mem.step_catC MB.out 3 rfl (by rfl) _ _ _ (by rfl) _ 40 Tryz.underlying26 info_seg (by rfl) (by decide) segC_len segC_one L A n cap (by rfl) (by rfl) (HSL3.out.held (((Held.refl w3).alloc _).alloc _).drew) rfl (by omega) (by decide) ?_; intro A8 c8 w8 M8' k8; simp only [Nat.zero_add, List.nil_append] at M8' ⊢; have M8B := Lib.hid M8'; obtain ⟨⟨c0, c1, c2, c3⟩, ⟨cf0, cf1, cf2, cf3⟩, cl⟩ := M8'.box4 0 rfl; obtain ⟨⟨g0, g1, g2⟩, _, gl⟩ := M8'.box3 1 rfl; clear M8' k8)
      | (refine Mem.step_catC MC.out 4 rfl (by rfl) _ _ _ (by rfl) _ 40 Tryz.underlying26 info_seg (by rfl) (by decide) segC_len segC_one L A n cap (by rfl) (by rfl) (HSL3.out.held (((Held.refl w3).alloc _).alloc _).drew) rfl (by omega) (by decide) ?_; intro A8 c8 w8 M8' k8; simp only [Nat.zero_add, List.nil_append] at M8' ⊢; have M8C := Lib.hid M8'; obtain ⟨⟨c0, c1, c2, c3⟩, ⟨cf0, cf1, cf2, cf3⟩, cl⟩ := M8'.box4 0 rfl; obtain ⟨⟨g0, g1, g2⟩, _, gl⟩ := M8'.box3 1 rfl; clear M8' k8))
    all_goals
      first
      | (have MF := Lib.hid ((M9A.out.put 0 rfl 3 (.slice (some ⟨g9, 0, none⟩) (n + 1) c9)).sel [0, 1, 2, 3] (by decide)))
      | (have MF := Lib.hid ((M9B.out.put 0 rfl 3 (.slice (some ⟨g9, 0, none⟩) (n + 1) c9)).sel [0, 1, 2, 3] (by decide)))
      | (have MF := Lib.hid ((M9C.out.put 0 rfl 3 (.slice (some ⟨g9, 0, none⟩) (n + 1) c9)).sel [0, 1, 2, 4] (by decide)))
      go_wp2
      go_meet
      case rel => exact ⟨_, _, MF.out⟩
  case rest =>
    obtain ⟨A9, c9, hM9⟩ := hcut
    have M9 := Lib.hid hM9
    clear hM9 MA MB MC HK3 M3 c0 c1 c2 c3 cf0 cf1 cf2 cf3 cl g0 g1 g2 gl rf0 rf1 rf2 rf3 rl
    obtain ⟨⟨c0, c1, c2, c3⟩, ⟨cf0, cf1, cf2, cf3⟩, cl⟩ := M9.out.box4 0 rfl
    obtain ⟨⟨g0, g1, g2⟩, _, gl⟩ := M9.out.box3 1 rfl
    obtain ⟨_, ⟨rf0, rf1, rf2, rf3⟩, rl⟩ := M9.out.box4 2 rfl
    have hne := M9.out.ne 0 2 rfl rfl (by decide)
    have MF := Lib.hid ((M9.out.put 0 rfl 1 (.int .u64 k2)).put4 2 rfl (.int .u64 b) (.int .u64 k2) (.int .u64 kn) (.slice A9 (n + 1) c9))
    go_wp2
    refine bodyPost_ret (Bx.res_ct Tryz.results23 rfl (snd_load (MF.out.blk 2 rfl))) rfl ?_
    refine SndR.mk (by rw [HP.out]; simp [gs, SR.g]) (by rw [HP.out]; rfl) (Own.reads segC_len (MF.out.row 3 rfl)).1 (Sgs.snoc (HG.out.held MF.out.held) (HSG.out.held MF.out.held)) MF.out.held
end St
end Go.Proofs.YthpjbffhdaaibaaGreat
