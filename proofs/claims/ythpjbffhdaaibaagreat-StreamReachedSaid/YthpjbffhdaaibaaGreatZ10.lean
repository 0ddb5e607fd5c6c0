/-
  Contracts: Encode, Decode, copySegment of the program (chapter 24).
  Contracts: copySender, copyReceiver, New of the program (chapter 24).
  Contracts: Sending of the program (chapter 24).
  Contracts: copyReceiver of the program (chapter 24).
  Contracts: Receiving, New, openBody, Reply of the program (chapter 24).
  Contracts: New, openBody, Reply of the program (chapter 24).
  Contracts: Reply, Packets of the program (chapter 24).
-/
import Derived.Test.YthpjbffhdaaibaaGreatZ9
import Derived.Test.YthpjbffhdaaibaaGreatZ7
import Derived.RegionTactic
import Derived.BigRegion
import Derived.Lib.QuietBelow
import Derived.Deep.RegionHeld3
import Derived.Test.YthpjbffhdaaibaaGreatZ1
set_option linter.unusedVariables false
set_option linter.unusedSimpArgs false
set_option maxRecDepth 100000
namespace Go.Proofs.YthpjbffhdaaibaaGreat
open Go.RowKit Go.BigFrame Go.Sort Go.Lib
namespace St
open Enc Uv Lg Lgc Strs
set_option maxHeartbeats 1000000 in
theorem encodeS_any (f kn : Nat) (A : Option Addr) (n cap : Nat) (es : List Ent) (B : Nat) (w : World) (h : Sg B w ⟨f, kn, A, n, cap, es⟩) :
    Calls Tryz.prog 8 #[.agg #[.int .u64 f, .int .u64 kn, .slice A n cap]] w (EncTo (body ⟨f, kn, es⟩) w) := by
  have hf : (f : Int) ≤ 18446744073709551615 := by have := h.f; simp only at this; omega
  have hkn : (kn : Int) ≤ 18446744073709551615 := by have := h.kn; simp only at this; omega
  have HA := Lib.hid ((Held.refl w).alloc (.cells #[.int .u64 f, .int .u64 kn, .slice A n cap] 25))
  have H1 := Lib.hid (log_any f kn A n cap es B (w.alloc (.cells #[.int .u64 f, .int .u64 kn, .slice A n cap] 25)) (h.held HA.out))
  have HK := Lib.hid fun (w' : World) (k : Held (w.alloc (.cells #[.int .u64 f, .int .u64 kn, .slice A n cap] 25)) w') => And.intro (Bx.cell (Bx.held (Bx.new w _) k) 0 rfl) (Bx.cell (Bx.held (Bx.new w _) k) 1 rfl)
  have hll := logOf_len (g := ⟨f, kn, es⟩)
  have HB : Is (body ⟨f, kn, es⟩) (if (logOf ⟨f, kn, es⟩).2 = 0 then (put f ++ put kn ++ Cp.compress (logOf ⟨f, kn, es⟩).1, 0) else ([], (logOf ⟨f, kn, es⟩).2)) := ⟨rfl⟩
  obtain ⟨v, hv⟩ : ∃ v, logOf ⟨f, kn, es⟩ = v := ⟨_, rfl⟩
  obtain ⟨bo, hbo⟩ : ∃ v, body ⟨f, kn, es⟩ = v := ⟨_, rfl⟩
  rw [hv] at H1 HB hll
  rw [hbo] at HB ⊢
  obtain ⟨s, c⟩ := v
  dsimp only at hll HB
  have P1 := Lib.hid fun w => put_any f hf w
  have P2 := Lib.hid fun w => put_any kn hkn w
  have P3 := Lib.hid fun w => Cp.compress_any ⟨s.toArray⟩ w (by rw [ba_size]; omega)
  have lp1 := put_len f (by omega)
  have lp2 := put_len kn (by omega)
  have lp3 := Cp.compress_len s
  have lp4 : (s.length + 127) / 128 ≤ 513 := by omega
  generalize put f = p1 at P1 HB lp1
  generalize put kn = p2 at P2 HB lp2
  generalize Cp.compress s = p3 at P3 HB lp3
  clear hv hbo h
  go_enter Tryz.func8, Tryz.ntmps8
  go_wp2_with fail
  refine H1.out.mono ?_
  rintro e w2 ⟨rfl, h2⟩
  obtain ⟨c0, c1⟩ := HK.out _ h2
  have W2 := Lib.hid (HA.out.step h2)
  clear h2 H1
  dsimp only
  by_cases hc : c = 0
  · have hcb : (c == 0) = true := by simpa using hc
    have HB2 : Is bo (p1 ++ p2 ++ p3, 0) := ⟨by rw [HB.out, if_pos hc]⟩
    clear HB
    subst hc
    go_wp2
    have k0 := cell_regrown c0
    have k1 := cell_regrown c1
    have cA := Lib.hid fun d os => Calls.regrown_of (d := d) (os := os) (P1.out (grow (redrawn w2 d) os))
    have cB := Lib.hid fun d os => Calls.regrown_of (d := d) (os := os) (P2.out (grow (redrawn w2 d) os))
    have cC := Lib.hid fun d os => Calls.regrown_of (d := d) (os := os) (P3.out (grow (redrawn w2 d) os))
    clear c0 c1
    refine wp_region_quiet_below (by kernel_rfl) (by kernel_rfl) ?_
    repeat (go_big_quiet_step (first | (go_at_call 37; with_reducible exact cA.out _ _) | (go_at_call 37; with_reducible exact cB.out _ _) | (go_at_call 38; with_reducible exact cC.out _ _)))
    refine wpQuiet_nil ?_
    intro _ hw'
    obtain ⟨⟨dq, osq⟩, hw''⟩ := hw'
    subst hw''
    have W3 := Lib.hid (W2.out.step (below_regrown w2 dq osq))
    clear k0 k1 cA cB cC
    go_wp2
    go_ret2
    exact EncTo.mk (by rw [HB2.out]; simp) W3.out
  · have hcb : (c == 0) = false := by simpa using hc
    have HB2 : Is bo ([], c) := ⟨by rw [HB.out, if_neg hc]⟩
    clear HB hc
    go_wp2
    go_ret2
    exact EncTo.mk (by first | exact HB2.out | (rw [HB2.out]; rfl)) W2.out
theorem seg_load {w : World} {b : Nat} {v1 v2 v3 : Value} (h : w.heap[b]? = some (.cells #[v1, v2, v3] 25 (0, 0))) : (loadVar 25 ⟨b, 0, none⟩).run Tryz.prog w = .ok (.agg #[v1, v2, v3]) w := by
  have c0 := Bx.cell h 0 rfl
  have c1 := Bx.cell h 1 rfl
  have c2 := Bx.cell h 2 rfl
  simp [go_sem, c0, c1, c2]
/-- A call hands back a segment of its own. -/
def SegTo (g : Seg) (w : World) (e : Ending) (w' : World) : Prop := ∃ A n cap, e = .returned (.agg #[.int .u64 g.f, .int .u64 g.kn, .slice A n cap]) ∧ (∀ B, Sg B w' ⟨g.f, g.kn, A, n, cap, g.es⟩) ∧ Held w w'
set_option maxHeartbeats 1000000 in
theorem copy_any (f kn : Nat) (A : Option Addr) (n cap : Nat) (es : List Ent) (B : Nat) (w : World) (h : Sg B w ⟨f, kn, A, n, cap, es⟩) :
    Calls Tryz.prog 54 #[.agg #[.int .u64 f, .int .u64 kn, .slice A n cap]] w (SegTo ⟨f, kn, es⟩ w) := by
  have HG := Lib.hid h
  have hn : n ≤ 100000 := h.n
  obtain ⟨W2, hW2⟩ : ∃ W2, (w.alloc (.cells #[.int .u64 f, .int .u64 kn, .slice A n cap] 25)).alloc (.cells #[.int .u64 0, .int .u64 0, .slice none 0 0] 25) = W2 := ⟨_, rfl⟩
  have M : Hid (Mem w W2 [.box w.heap.size #[.int .u64 f, .int .u64 kn, .slice A n cap] 25, .box (w.heap.size + 1) #[.int .u64 0, .int .u64 0, .slice none 0 0] 25]) := by
    rw [← hW2]; exact ((Mem.start w).alloc' (b := w.heap.size) rfl _ _).alloc' (b := w.heap.size + 1) (by simp) _ _
  have HC := Lib.hid (SlcEn.clone_any entC_len entC_one A n cap es W2 (h.sl.held M.out.held) (fun e => (h.none e)) (by omega))
  have HEQ := Lib.hid hW2
  have HES : Is es.length n := ⟨h.sl.1⟩
  clear hW2 h
  go_enter Tryz.func54, Tryz.ntmps54
  go_wp2_with fail
  rw [HEQ.out]
  refine HC.out.mono ?_
  rintro e w3 ⟨v1, rfl, o1, h1⟩
  obtain ⟨A1, cp1, rfl, _, _⟩ := o1.shape
  have M3 := Lib.hid (M.out.own h1 o1)
  rw [HES.out] at M3 ⊢
  clear h1 o1 HC HEQ M
  obtain ⟨⟨c0, c1, c2⟩, ⟨f0, f1, f2⟩, hl⟩ := M3.out.box3 0 rfl
  obtain ⟨_, ⟨g0, g1, g2⟩, hl2⟩ := M3.out.box3 1 rfl
  have hne : ¬ w.heap.size = w.heap.size + 1 := by omega
  have hne2 : ¬ w.heap.size + 1 = w.heap.size := by omega
  go_wp2
  have MF := (((M3.out.put 0 rfl 2 (.slice A1 n cp1)).put 1 rfl 0 (.int .u64 f)).put 1 rfl 1 (.int .u64 kn)).put 1 rfl 2 (.slice A1 n cp1)
  refine bodyPost_ret (Bx.res_c Tryz.results54 rfl (seg_load (MF.blk 1 rfl))) rfl ?_
  have hrow := MF.row 2 rfl
  exact ⟨A1, n, cp1, rfl, fun B => ⟨(Own.reads entC_len hrow).1, Ty.own hrow, HG.out.n, HG.out.f, HG.out.kn, HG.out.ok⟩, MF.held⟩
theorem copyN_len (l : List UInt8) (d : Nat) : ∀ n, (Cp.copyN l d n).length = l.length + n
  | 0 => rfl
  | n + 1 => by rw [Cp.copyN, List.length_append, copyN_len l d n]; rfl
theorem decF_len (most : Nat) : ∀ (f : Nat) (s out : List UInt8), out.length ≤ most → (Cp.decF most f s out).2.length ≤ most
  | 0, _, out, h => h
  | f + 1, [], out, h => h
  | f + 1, c :: t, out, h => by
    unfold Cp.decF
    split
    · split
      · exact Nat.zero_le _
      · split
        · exact Nat.zero_le _
        · exact decF_len most f _ _ (by rw [List.length_append, List.length_take]; omega)
    · split
      · cases t with
        | nil => exact Nat.zero_le _
        | cons d u =>
          simp only
          split
          · exact Nat.zero_le _
          · split
            · exact Nat.zero_le _
            · exact decF_len most f _ _ (by rw [copyN_len]; omega)
      · exact Nat.zero_le _
theorem dec_len (most : Nat) (s out : List UInt8) (h : out.length ≤ most) : (Cp.dec most s out).2.length ≤ most := decF_len most _ s out h
/-- A call hands back a segment of its own and an error. -/
def UnTo (p : Seg × Int) (w : World) (e : Ending) (w' : World) : Prop := ∃ A n cap, e = .returned (.tuple #[.agg #[.int .u64 p.1.f, .int .u64 p.1.kn, .slice A n cap], .int .i64 p.2]) ∧ (∀ B, Sg B w' ⟨p.1.f, p.1.kn, A, n, cap, p.1.es⟩) ∧ Held w w'
theorem Mem.put3 {W w : World} {b : Nat} {x0 x1 x2 : Value} {t : TypeId} {H : List Ck} (h : Mem W w (.box b #[x0, x1, x2] t :: H)) (y0 y1 y2 : Value) : Mem W (((w.setCell ⟨b, 0, none⟩ y0).setCell ⟨b, 1, none⟩ y1).setCell ⟨b, 2, none⟩ y2) (.box b #[y0, y1, y2] t :: H) :=
  ((h.put 0 rfl 0 y0).put 0 rfl 1 y1).put 0 rfl 2 y2
theorem un_no {p : Seg × Int} {w w' : World} {tm : Value} {c : Int} (hp : p = (noSeg, c)) (h : Held w w') (ht : tm = .int .i64 c) : UnTo p w (.returned (.tuple #[.agg #[.int .u64 0, .int .u64 0, .slice none 0 0], tm])) w' := by
  subst hp ht
  exact ⟨none, 0, 0, rfl, fun B => Sg.zero B w', h⟩
set_option maxHeartbeats 2000000 in
theorem decodeS_any (s : ByteArray) (hs : (s.size : Int) ≤ 1000000000000) (w : World) : Calls Tryz.prog 10 #[.string s] w (UnTo (unbody s.data.toList) w) := by
  obtain ⟨l, hl⟩ : ∃ l, s.data.toList = l := ⟨_, rfl⟩
  have HS : Is s.data.toList l := ⟨hl⟩
  have hsl : l.length = s.size := by rw [← hl, len_eq]
  have hu := fun w => uv_any s (by omega) w
  rw [hl] at hu ⊢
  have hX := uvX_lt l
  have hN := uvN_le l
  have HB : Is (unbody l) (if uvB l = false then (noSeg, 2400) else unbody2 (uvX l) (l.drop (uvN l))) := ⟨rfl⟩
  obtain ⟨p, hp⟩ : ∃ p, unbody l = p := ⟨_, rfl⟩
  rw [hp] at HB ⊢
  have HU := Lib.hid hu
  generalize uvX l = X at HU HB hX
  generalize uvB l = Y at HU HB
  obtain ⟨N, hNe⟩ : ∃ N, uvN l = N := ⟨_, rfl⟩
  rw [hNe] at HU HB hN
  have HNE := Lib.hid hNe
  have hN2 : N ≤ s.size := by omega
  have hu2 := fun w => uv_any (s.extract N s.size) (by rw [ByteArray.size_extract]; omega) w
  rw [ext_drop, hl] at hu2
  obtain ⟨t, ht⟩ : ∃ t, l.drop N = t := ⟨_, rfl⟩
  have htl : t.length = s.size - N := by rw [← ht, List.length_drop]; omega
  rw [ht] at hu2 HB
  have HT : Is ((s.extract N s.size).data.toList) t := ⟨by rw [ext_drop, hl, ht]⟩
  have HU2 := Lib.hid hu2
  have hX2 := uvX_lt t
  have hN3 := uvN_le t
  have hu2' : Is (unbody2 X t) (if (!uvB t || decide (uvX t < X)) = true then (noSeg, 2400) else unpack X (uvX t) (Cp.dec 65536 (t.drop (uvN t)) [])) := ⟨rfl⟩
  obtain ⟨ub, hub⟩ : ∃ ub, unbody2 X t = ub := ⟨_, rfl⟩
  rw [hub] at HB hu2'
  generalize uvX t = X2 at HU2 hu2' hX2
  generalize uvB t = Y2 at HU2 hu2'
  obtain ⟨N2, hNe2⟩ : ∃ N2, uvN t = N2 := ⟨_, rfl⟩
  rw [hNe2] at HU2 hu2' hN3
  clear hu hu2 hp hub hNe hNe2 ht hl HNE
  have M0 := Lib.hid ((Mem.start w).alloc' (b := w.heap.size) rfl #[.int .u64 0, .int .u64 0, .slice none 0 0] 25)
  obtain ⟨⟨c0, c1, c2⟩, ⟨f0, f1, f2⟩, hlt⟩ := M0.out.box3 0 rfl
  obtain ⟨w1, hw1⟩ : ∃ w1, w.alloc (.cells #[.int .u64 0, .int .u64 0, .slice none 0 0] 25) = w1 := ⟨_, rfl⟩
  have HW1 := Lib.hid hw1
  rw [hw1] at M0 c0 c1 c2 f0 f1 f2 hlt
  clear hw1
  go_enter Tryz.func10, Tryz.ntmps10
  go_wp2_with fail
  rw [HW1.out]
  refine (HU.out _).mono ?_
  rintro e w2 ⟨rfl, rfl⟩
  clear HU
  cases Y
  · have HP : Is p (noSeg, 2400) := ⟨HB.out⟩
    clear HB hu2' HU2
    go_wp2
    refine bodyPost_ret (Bx.res_ct Tryz.results10 rfl (seg_load ((Mem.put3 M0.out (.int .u64 0) (.int .u64 0) (.slice none 0 0)).blk 0 rfl))) rfl ?_
    exact un_no HP.out (Mem.put3 M0.out _ _ _).held rfl
  have HP : Is p ub := ⟨by rw [HB.out, if_neg (by simp)]⟩
  clear HB
  have hNi : (N : Int) ≤ s.size := by omega
  have hN0 : (0 : Int) ≤ N := by omega
  go_wp2_with fail
  refine (HU2.out _).mono ?_
  rintro e w2 ⟨rfl, rfl⟩
  clear HU2
  by_cases hc2 : (!Y2 || decide (X2 < X)) = true
  · have HP2 : Is p (noSeg, 2400) := ⟨by rw [HP.out, hu2'.out, if_pos hc2]⟩
    clear HP hu2'
    cases Y2
    · clear hc2
      go_wp2
      refine bodyPost_ret (Bx.res_ct Tryz.results10 rfl (seg_load ((Mem.put3 M0.out (.int .u64 0) (.int .u64 0) (.slice none 0 0)).blk 0 rfl))) rfl ?_
      exact un_no HP2.out (Mem.put3 M0.out _ _ _).held rfl
    · have hlt3 : (X2 : Int) < X := by simp at hc2; omega
      clear hc2
      go_wp2
      refine bodyPost_ret (Bx.res_ct Tryz.results10 rfl (seg_load ((Mem.put3 M0.out (.int .u64 0) (.int .u64 0) (.slice none 0 0)).blk 0 rfl))) rfl ?_
      exact un_no HP2.out (Mem.put3 M0.out _ _ _).held rfl
  have HP2 : Is p (unpack X X2 (Cp.dec 65536 (t.drop N2) [])) := ⟨by rw [HP.out, hu2'.out, if_neg hc2]⟩
  obtain rfl : Y2 = true := by cases Y2 <;> simp_all
  have hlt3 : ¬ (X2 : Int) < X := by simp at hc2; omega
  have hlt4 : decide ((X2 : Int) < X) = false := decide_eq_false hlt3
  clear HP hu2' hc2
  have hts : (s.extract N s.size).size = s.size - N := by rw [ByteArray.size_extract]; omega
  have hd := Cp.dec_any ((s.extract N s.size).extract N2 (s.extract N s.size).size) 65536 w1 (by rw [ByteArray.size_extract]; omega) (by omega)
  rw [ext_drop, HT.out] at hd
  obtain ⟨d, hdd⟩ : ∃ d, Cp.dec 65536 (t.drop N2) [] = d := ⟨_, rfl⟩
  have hdd2 : Cp.dec (65536 : Int).toNat (t.drop N2) [] = d := hdd
  rw [hdd2] at hd
  rw [hdd] at HP2
  obtain ⟨dc, ds⟩ := d
  have HD := Lib.hid hd
  have hdl : ds.length ≤ 65536 := by have := dec_len 65536 (t.drop N2) [] (Nat.zero_le _); rw [hdd] at this; exact this
  clear hd hdd hdd2
  have hNi2 : (N2 : Int) ≤ s.size - N := by omega
  have hNi3 : N2 ≤ s.size - N := by omega
  have hNi4 : (0 : Int) ≤ N2 := by omega
  rw [hts] at HD
  go_wp2_with fail
  refine HD.out.mono ?_
  rintro e w2 ⟨rfl, h2⟩
  have M1 := Lib.hid (M0.out.keep h2)
  clear c0 c1 c2 f0 f1 f2 hlt h2 HD M0 HW1
  obtain ⟨⟨c0, c1, c2⟩, ⟨f0, f1, f2⟩, hlt⟩ := M1.out.box3 0 rfl
  by_cases hdc : ¬ dc = 0
  · have hdc2 : ((dc : Int) == 0) = false := by rw [beq_eq_false_iff_ne]; omega
    have hdc3 : (dc == 0) = false := by rw [beq_eq_false_iff_ne]; exact hdc
    have HP3 : Is p (noSeg, dc) := ⟨by rw [HP2.out]; unfold unpack; rw [if_pos hdc]⟩
    clear HP2 hdc
    go_wp2
    refine bodyPost_ret (Bx.res_ct Tryz.results10 rfl (seg_load ((Mem.put3 M1.out (.int .u64 0) (.int .u64 0) (.slice none 0 0)).blk 0 rfl))) rfl ?_
    exact un_no HP3.out (Mem.put3 M1.out _ _ _).held rfl
  have hdc := Decidable.not_not.1 hdc
  subst hdc
  have HP3 : Is p (unlog X X2 (decL ds X)) := ⟨by rw [HP2.out]; unfold unpack; rw [if_neg (by simp)]⟩
  clear HP2
  have he := decode_any ⟨ds.toArray⟩ X (by rw [ba_size]; omega) (by omega) w2
  rw [show (⟨ds.toArray⟩ : ByteArray).data.toList = ds by simp] at he
  obtain ⟨r, hr⟩ : ∃ r, decL ds X = r := ⟨_, rfl⟩
  rw [hr] at he HP3
  obtain ⟨L, rc⟩ := r
  have HE := Lib.hid he
  clear he hr
  go_wp2_with fail
  refine HE.out.mono ?_
  rintro e w3 ⟨A, cap, rfl, o3, h3, hok, hl4⟩
  dsimp only at o3 hok hl4 ⊢
  obtain ⟨n, hn⟩ : ∃ n, L.length = n := ⟨_, rfl⟩
  have HN : Is L.length n := ⟨hn⟩
  have HOK := Lib.hid hok
  have M2 := Lib.hid (M1.out.own h3 o3)
  rw [hn] at M2 hl4 ⊢
  clear hn hok c0 c1 c2 f0 f1 f2 hlt h3 o3 HE M1
  obtain ⟨⟨c0, c1, c2⟩, ⟨f0, f1, f2⟩, hlt⟩ := M2.out.box3 0 rfl
  by_cases hrc : ¬ rc = 0
  · have hrc2 : (rc == 0) = false := by rw [beq_eq_false_iff_ne]; exact hrc
    have HP4 : Is p (noSeg, rc) := ⟨by rw [HP3.out]; unfold unlog; rw [if_pos hrc]⟩
    clear HP3 hrc
    go_wp2
    refine bodyPost_ret (Bx.res_ct Tryz.results10 rfl (seg_load ((Mem.put3 M2.out (.int .u64 0) (.int .u64 0) (.slice none 0 0)).blk 0 rfl))) rfl ?_
    exact un_no HP4.out (Mem.put3 M2.out _ _ _).held rfl
  have hrc := Decidable.not_not.1 hrc
  subst hrc
  have HSL := Lib.hid (Own.reads entC_len (M2.out.row 1 rfl)).1
  have HBY := Lib.hid (beyond_any A n cap X2 L w3 HSL.out (by omega))
  have HP4 : Is p (if late L X2 = true then (noSeg, 2400) else (⟨X, X2, L⟩, 0)) := ⟨by rw [HP3.out]; unfold unlog; rw [if_neg (by simp)]⟩
  obtain ⟨lb, hlb⟩ : ∃ lb, late L X2 = lb := ⟨_, rfl⟩
  rw [hlb] at HBY HP4
  clear HP3 hlb
  go_wp2_with fail
  refine HBY.out.mono ?_
  rintro e w4 ⟨rfl, h4⟩
  have M3 := Lib.hid (M2.out.keep h4)
  clear h4 HBY c0 c1 c2 f0 f1 f2 hlt HSL M2
  obtain ⟨⟨c0, c1, c2⟩, ⟨f0, f1, f2⟩, hlt⟩ := M3.out.box3 0 rfl
  cases lb
  · have HP5 : Is p (⟨X, X2, L⟩, 0) := ⟨HP4.out⟩
    clear HP4
    go_wp2
    have MF := Mem.put3 M3.out (.int .u64 X) (.int .u64 X2) (.slice A n cap)
    refine bodyPost_ret (Bx.res_ct Tryz.results10 rfl (seg_load (MF.blk 0 rfl))) rfl ?_
    rw [HP5.out]
    have hrow := MF.row 1 rfl
    exact ⟨A, n, cap, rfl, fun B => ⟨(Own.reads entC_len hrow).1, Ty.own hrow, by simp only; omega, hX, hX2, HOK.out⟩, MF.held⟩
  · have HP5 : Is p (noSeg, 2400) := ⟨HP4.out⟩
    clear HP4
    go_wp2
    refine bodyPost_ret (Bx.res_ct Tryz.results10 rfl (seg_load ((Mem.put3 M3.out (.int .u64 0) (.int .u64 0) (.slice none 0 0)).blk 0 rfl))) rfl ?_
    exact un_no HP5.out (Mem.put3 M3.out _ _ _).held rfl
end St
end Go.Proofs.YthpjbffhdaaibaaGreat

set_option linter.unusedVariables false
set_option linter.unusedSimpArgs false
set_option maxRecDepth 100000
namespace Go.Proofs.YthpjbffhdaaibaaGreat
open Go.RowKit Go.BigFrame Go.Sort Go.Lib
namespace St
open Enc Uv Lg Lgc Strs
theorem snd_load {w : World} {b : Nat} {v1 v2 v3 v4 : Value} (h : w.heap[b]? = some (.cells #[v1, v2, v3, v4] 28 (0, 0))) : (loadVar 28 ⟨b, 0, none⟩).run Tryz.prog w = .ok (.agg #[v1, v2, v3, v4]) w := by
  have c0 := Bx.cell h 0 rfl
  have c1 := Bx.cell h 1 rfl
  have c2 := Bx.cell h 2 rfl
  have c3 := Bx.cell h 3 rfl
  simp [go_sem, c0, c1, c2, c3]
theorem rcv_load {w : World} {b : Nat} {v1 v2 v3 : Value} (h : w.heap[b]? = some (.cells #[v1, v2, v3] 31 (0, 0))) : (loadVar 31 ⟨b, 0, none⟩).run Tryz.prog w = .ok (.agg #[v1, v2, v3]) w := by
  have c0 := Bx.cell h 0 rfl
  have c1 := Bx.cell h 1 rfl
  have c2 := Bx.cell h 2 rfl
  simp [go_sem, c0, c1, c2]
/-- A queue of the call's own. -/
def OwnQ (B : Nat) (W w : World) (v : Value) (G : List Seg) : Prop := ∃ R, gs R = G ∧ Own 25 3 segC W.heap.size w v R ∧ Sgs B w R
def OwnE (B : Nat) (W w : World) (v : Value) (G : List Er) : Prop := ∃ R, ers R = G ∧ Own 72 4 erC W.heap.size w v R ∧ Ers B w R
def SndTo (B : Nat) (S : Snd) (w : World) (e : Ending) (w' : World) : Prop := ∃ A n cap, e = .returned (.agg #[.int .u64 S.b, .int .u64 S.t, .int .u64 S.kn, .slice A n cap]) ∧ OwnQ B w w' (.slice A n cap) S.q ∧ Held w w'
def RcvTo (B : Nat) (R : Rcv) (w : World) (e : Ending) (w' : World) : Prop := ∃ A n cap, e = .returned (.agg #[.int .u64 R.n, .int .u64 R.kn, .slice A n cap]) ∧ OwnE B w w' (.slice A n cap) R.e ∧ Held w w'
theorem alloc2_size (w : World) (o p : Obj) : ((w.alloc o).alloc p).heap.size = w.heap.size + 1 + 1 := by simp
theorem gs_len (R : List SR) : (gs R).length = R.length := List.length_map _
set_option maxHeartbeats 1000000 in
theorem copySender_any (b t kn : Nat) (A : Option Addr) (n cap : Nat) (L : List SR) (B : Nat) (w : World) (hB : B ≤ w.heap.size) (h : Sl 3 segC w A n L) (hg : Sgs B w L) (hn : n ≤ 1000000) :
    Calls Tryz.prog 53 #[.agg #[.int .u64 b, .int .u64 t, .int .u64 kn, .slice A n cap]] w (SndTo B ⟨b, t, kn, gs L⟩ w) := by
  have HS := Lib.hid h
  have HG := Lib.hid hg
  have HL : Is L.length n := ⟨h.1⟩
  have HBB := Lib.hid hB
  have hn2 : (n : Int) ≤ 1000000 := by omega
  have M : Hid (Mem w _ [.box w.heap.size #[.int .u64 b, .int .u64 t, .int .u64 kn, .slice A n cap] 28, .box (w.heap.size + 1) #[.int .u64 0, .int .u64 0, .int .u64 0, .slice none 0 0] 28]) :=
    ((Mem.start w).alloc' (b := w.heap.size) rfl _ _).alloc' (b := w.heap.size + 1) (by simp) _ _
  clear h hg hB
  go_enter Tryz.func53, Tryz.ntmps53
  go_wp2_with (at_make; refine Mem.wp_make0 (f := segC) M.out rfl _ _ 26 rfl (.agg #[.int .u64 0, .int .u64 0, .slice none 0 0]) 40 Tryz.underlying26 info_seg .i64 .i64 _ (n + 1) rfl rfl (by go_num) (by omega) (by unfold maxLen; omega) ?_; intro w7 M7 h7; rw [alloc2_size] at M7; have M8 := Lib.hid M7; clear M7; obtain ⟨⟨c0, c1, c2, c3⟩, _, hl0⟩ := M8.out.box4 0 rfl)
  clear M h7
  go_loopw [3, 14] (fun v i wr => ∃ (q : Nat) (R : List SR), i = .int .i64 (q : Int) ∧ q ≤ n ∧ R.length = q ∧ gs R = gs (L.take q) ∧ Sgs B wr R ∧ Mem w wr [.box w.heap.size #[.int .u64 b, .int .u64 t, .int .u64 kn, .slice A n cap] 28, .box (w.heap.size + 1) #[.int .u64 0, .int .u64 0, .int .u64 0, .slice none 0 0] 28, .row 25 3 segC w.heap.size v R]) (fun _ i _ => n - (RowKit.intOf i).toNat)
  case atStart => exact ⟨0, [], rfl, Nat.zero_le _, rfl, rfl, Sgs.nil _ _, M8.out⟩
  case round =>
    obtain ⟨q, R, rfl, hq, hRq, hRg, hRs, hM⟩ := hrel
    obtain ⟨A2, cap2, rfl, hcap2, _⟩ := (hM.row 2 rfl).shape
    have HRQ : Is R.length q := ⟨hRq⟩
    have HRG := Lib.hid hRg
    have HRS := Lib.hid hRs
    have M := Lib.hid hM
    rw [hRq] at M hcap2 ⊢
    clear hRg hRs hM hRq M8 c0 c1 c2 c3 hl0
    by_cases hlt : q < n
    · obtain ⟨b1, off, f', kn', A', n', cap', es', rfl, hb1, hx, x0, x1, x2⟩ := segAt HS.out M.out.held (k := q) hlt
      have z2 : (q : Int) < n := by omega
      have z3 : (0 : Int) ≤ q := by omega
      have SG := Lib.hid (HG.out.at_ hx)
      have HX := Lib.hid hx
      have hz := M.out.held.le
      have hbw : b1 < wr.heap.size := by omega
      have hbn : ¬ b1 = wr.heap.size := by omega
      have M2 := Lib.hid (M.out.alloc #[.int .u64 f', .int .u64 kn', .slice A' n' cap'] 25)
      have HC := Lib.hid (copy_any f' kn' A' n' cap' es' B (wr.alloc (.cells #[.int .u64 f', .int .u64 kn', .slice A' n' cap'] 25)) (SG.out.held M2.out.held))
      obtain ⟨⟨d0, d1, d2⟩, _, hd⟩ := M2.out.box3 3 rfl
      clear hx hb1 hz
      go_wp2_with fail
      refine HC.out.mono ?_
      rintro e w3 ⟨A3, n3, cap3, rfl, hs3, h3⟩
      dsimp only at hs3 ⊢
      have M3 := Lib.hid ((M2.out.keep h3).skip (.cells #[.int .u64 f', .int .u64 kn', .slice A3 n3 cap3] 25))
      have S3 := Lib.hid ((hs3 B).held ((Held.refl w3).alloc (.cells #[.int .u64 f', .int .u64 kn', .slice A3 n3 cap3] 25)))
      have R3 := Lib.hid (HRS.out.held ((((Held.refl wr).alloc _).step h3).alloc (.cells #[.int .u64 f', .int .u64 kn', .slice A3 n3 cap3] 25)))
      clear hs3 h3 HC M2 M HRS x0 x1 x2 d0 d1 d2 hd
      go_wp2_with (at_builtin; refine Mem.wp_appC M3.out 2 rfl rfl _ _ _ rfl _ 40 Tryz.underlying26 info_seg rfl (by decide) segC_len segC_one ⟨f', kn', A3, n3, cap3, es'⟩ ⟨w3.heap.size, 0, none⟩ 1 rfl rfl (cells_new _ rfl _ _) q HRQ.out (by omega) (by decide) ?_; intro g4 cp4 w4 M4' k4; have M4 := Lib.hid M4'; have K4 := Lib.hid k4; clear M4' k4)
      go_roundw
      case rel =>
        have kk := K4.out 70 B (by decide) HBB.out
        refine ⟨q + 1, R ++ [(⟨f', kn', A3, n3, cap3, es'⟩ : SR)], by go_num, by omega, by rw [List.length_append, HRQ.out]; rfl, ?_, (R3.out.chg kk).snoc (S3.out.chg kk), M4.out.take 3⟩
        have hql : q < L.length := by rw [HL.out]; exact hlt
        have hLq : L[q] = ⟨f', kn', A', n', cap', es'⟩ := by have := HX.out; rw [List.getElem?_eq_getElem hql] at this; injection this
        rw [List.take_succ_eq_append_getElem hql, hLq]
        have := HRG.out
        unfold gs at this ⊢
        rw [List.map_append, List.map_append, this]; rfl
      case measure => (simp [RowKit.intOf]) <;> omega
    · obtain rfl : q = n := by omega
      have z2 : ¬ (q : Int) < q := by omega
      obtain ⟨⟨c0, c1, c2, c3⟩, ⟨f0, f1, f2, f3⟩, hl0⟩ := M.out.box4 0 rfl
      obtain ⟨⟨d0, d1, d2, d3⟩, ⟨g0, g1, g2, g3⟩, hl1⟩ := M.out.box4 1 rfl
      have hne : ¬ w.heap.size = w.heap.size + 1 := by omega
      have hne2 : ¬ w.heap.size + 1 = w.heap.size := by omega
      go_wp2
      have MF := ((((M.out.put 0 rfl 3 (.slice A2 q cap2)).put 1 rfl 0 (.int .u64 b)).put 1 rfl 1 (.int .u64 t)).put 1 rfl 2 (.int .u64 kn)).put 1 rfl 3 (.slice A2 q cap2)
      refine bodyPost_ret (Bx.res_c Tryz.results53 rfl (snd_load (MF.blk 1 rfl))) rfl ?_
      have k1 := M.out.chgPut 0 rfl 3 (.slice A2 q cap2) (T := 70) (by decide) HBB.out
      have MA := M.out.put 0 rfl 3 (.slice A2 q cap2)
      have k2 := MA.chgPut 1 rfl 0 (.int .u64 b) (T := 70) (by decide) HBB.out
      have MB := MA.put 1 rfl 0 (.int .u64 b)
      have k3 := MB.chgPut 1 rfl 1 (.int .u64 t) (T := 70) (by decide) HBB.out
      have MC := MB.put 1 rfl 1 (.int .u64 t)
      have k4 := MC.chgPut 1 rfl 2 (.int .u64 kn) (T := 70) (by decide) HBB.out
      have MD := MC.put 1 rfl 2 (.int .u64 kn)
      have k5 := MD.chgPut 1 rfl 3 (.slice A2 q cap2) (T := 70) (by decide) HBB.out
      refine ⟨A2, q, cap2, rfl, ⟨R, ?_, MF.row 2 rfl, (((((HRS.out.chg k1).chg k2).chg k3).chg k4).chg k5)⟩, MF.held⟩
      have := HRG.out
      rw [List.take_of_length_le (by rw [HL.out]; exact Nat.le_refl _)] at this
      exact this
end St
end Go.Proofs.YthpjbffhdaaibaaGreat

set_option linter.unusedVariables false
set_option linter.unusedSimpArgs false
set_option maxRecDepth 100000
namespace Go.Proofs.YthpjbffhdaaibaaGreat
open Go.RowKit Go.BigFrame Go.Sort Go.Lib
namespace St
open Enc Uv Lg Lgc Strs
/-- The tests ahead of the queue. -/
theorem send_b {S : Snd} (h : ¬ (1 ≤ S.b ∧ S.b ≤ 4611686018427387904 ∧ S.q.length ≤ 8)) : sending S = false := by
  cases e : sending S
  · rfl
  · unfold sending at e
    simp only [Bool.and_eq_true, decide_eq_true_eq] at e
    exact absurd ⟨e.1.1.1, e.1.1.2, e.1.2⟩ h
theorem send_q {S : Snd} (h : 1 ≤ S.b ∧ S.b ≤ 4611686018427387904 ∧ S.q.length ≤ 8) : sending S = sendQ S := by
  unfold sending
  rw [decide_eq_true h.1, decide_eq_true h.2.1, decide_eq_true h.2.2]; rfl
theorem send_nil {b t kn : Nat} : sendQ ⟨b, t, kn, []⟩ = decide (kn ≤ t) := rfl
theorem send_cons {b t kn : Nat} {g : Seg} {l : List Seg} : sendQ ⟨b, t, kn, g :: l⟩ = (decide (kn ≤ g.f) && (chain g.f (g :: l) == some t)) := rfl
theorem chain_at {at_ : Nat} {L : List SR} {q : Nat} {x : SR} (h : L[q]? = some x) : chain at_ ((gs L).drop q) = if (decide (x.f = at_) && segOk x.g) = true then chain x.kn ((gs L).drop (q + 1)) else none := by
  obtain ⟨hl, rfl⟩ := List.getElem?_eq_some_iff.1 h
  have hl2 : q < (gs L).length := by rw [gs_len]; exact hl
  have e : (gs L)[q]'hl2 = L[q].g := List.getElem_map SR.g
  rw [List.drop_eq_getElem_cons hl2, chain, e]; rfl
theorem chain_end {at_ : Nat} {L : List SR} {q : Nat} (h : L.length = q) : chain at_ ((gs L).drop q) = some at_ := by
  rw [List.drop_of_length_le (by rw [gs_len]; omega)]; rfl
set_option maxHeartbeats 1000000 in
theorem sending_any (b t kn : Nat) (A : Option Addr) (n cap : Nat) (L : List SR) (B : Nat) (w : World) (h : Sl 3 segC w A n L) (hg : Sgs B w L) (hn : n ≤ 1000000) :
    Calls Tryz.prog 13 #[.agg #[.int .u64 b, .int .u64 t, .int .u64 kn, .slice A n cap]] w (BoolTo (sending ⟨b, t, kn, gs L⟩) w) := by
  have HS := Lib.hid h
  have HG := Lib.hid hg
  have HL : Is L.length n := ⟨h.1⟩
  have hn2 : (n : Int) ≤ 1000000 := by omega
  have hql : (gs L).length = n := by rw [gs_len]; exact h.1
  have HA := Lib.hid ((Held.refl w).alloc (.cells #[.int .u64 b, .int .u64 t, .int .u64 kn, .slice A n cap] 28))
  have HK := Lib.hid fun (w' : World) (k : Held (w.alloc (.cells #[.int .u64 b, .int .u64 t, .int .u64 kn, .slice A n cap] 28)) w') => And.intro (Bx.cell (Bx.held (Bx.new w _) k) 0 rfl) (And.intro (Bx.cell (Bx.held (Bx.new w _) k) 1 rfl) (And.intro (Bx.cell (Bx.held (Bx.new w _) k) 2 rfl) (Bx.cell (Bx.held (Bx.new w _) k) 3 rfl)))
  obtain ⟨r, hr⟩ : ∃ r, sending ⟨b, t, kn, gs L⟩ = r := ⟨_, rfl⟩
  rw [hr]
  have HNO : Hid (¬ (1 ≤ b ∧ b ≤ 4611686018427387904 ∧ n ≤ 8) → r = false) := fun h => by rw [← hr]; exact send_b (by simp only; rw [hql]; exact h)
  have HYES : Hid (1 ≤ b ∧ b ≤ 4611686018427387904 ∧ n ≤ 8 → r = sendQ ⟨b, t, kn, gs L⟩) := fun h => by rw [← hr]; exact send_q (by simp only; rw [hql]; exact h)
  clear h hg hr hql
  by_cases h1 : (b : Int) < 1
  · have HR := Lib.hid (HNO.out (by omega))
    clear HNO HYES
    go_enter Tryz.func13, Tryz.ntmps13
    go_wp2
    go_ret
    exact BoolTo.mk HR.out.symm HA.out
  have h1d : decide ((b : Int) < 1) = false := decide_eq_false h1
  by_cases h2 : (4611686018427387904 : Int) < b
  · have HR := Lib.hid (HNO.out (by omega))
    clear HNO HYES
    go_enter Tryz.func13, Tryz.ntmps13
    go_wp2
    go_ret
    exact BoolTo.mk HR.out.symm HA.out
  have h2d : decide ((4611686018427387904 : Int) < b) = false := decide_eq_false h2
  by_cases h3 : (8 : Int) < n
  · have HR := Lib.hid (HNO.out (by omega))
    clear HNO HYES
    go_enter Tryz.func13, Tryz.ntmps13
    go_wp2
    go_ret
    exact BoolTo.mk HR.out.symm HA.out
  have h3d : decide ((8 : Int) < n) = false := decide_eq_false h3
  have HR := Lib.hid (HYES.out (by omega))
  clear HNO HYES
  by_cases h0 : n = 0
  · subst h0
    have hL0 : L = [] := List.length_eq_zero_iff.1 HL.out
    have HR2 : Is r (decide (kn ≤ t)) := ⟨by rw [HR.out, hL0]; exact send_nil⟩
    clear HR hL0
    go_enter Tryz.func13, Tryz.ntmps13
    go_wp2
    go_ret
    exact BoolTo.mk (by first | exact HR2.out.symm | (rw [HR2.out, decide_eq_decide]; omega)) HA.out
  have h0d : ((n : Int) == 0) = false := by rw [beq_eq_false_iff_ne]; omega
  have h0p : (0 : Int) < n := by omega
  obtain ⟨b1, off, f0, kn0, A0, n0, cap0, es0, rfl, hb1, hx, x0, x1, x2⟩ := segAt HS.out HA.out (k := 0) (by omega)
  simp only [Nat.zero_mul, Nat.add_zero] at x0 x1 x2
  have hR3 : r = (decide (kn ≤ f0) && (chain f0 (gs L) == some t)) := by
    rw [HR.out]
    cases L with
    | nil => simp at hx
    | cons y L => simp only [List.getElem?_cons_zero, Option.some.injEq] at hx; subst hx; exact send_cons
  have HR3 := Lib.hid hR3
  have hbn : ¬ b1 = w.heap.size := by omega
  have hbn2 : b1 < w.heap.size + 1 := by omega
  clear HR hx hR3
  by_cases h4 : (f0 : Int) < kn
  · have HR4 : Is r false := ⟨by rw [HR3.out, decide_eq_false (by omega)]; rfl⟩
    clear HR3
    go_enter Tryz.func13, Tryz.ntmps13
    go_wp2
    go_region
    go_wp2
    go_ret
    exact BoolTo.mk HR4.out.symm HA.out.drew
  have h4d : decide ((f0 : Int) < kn) = false := decide_eq_false h4
  have h4n : decide (f0 < kn) = false := decide_eq_false (by omega)
  have HR4 : Is r (chain f0 (gs L) == some t) := ⟨by rw [HR3.out, decide_eq_true (by omega)]; rfl⟩
  clear HR3
  go_enter Tryz.func13, Tryz.ntmps13
  go_wp2
  go_region
  have HA2 := Lib.hid ((Held.refl (w.alloc (.cells #[.int .u64 b, .int .u64 t, .int .u64 kn, .slice (some ⟨b1, off, none⟩) n cap] 28))).drew)
  go_wp2
  go_loopw [3, 45] (fun a i wr => ∃ q at_ : Nat, a = .int .u64 (at_ : Int) ∧ i = .int .i64 (q : Int) ∧ q ≤ n ∧ chain f0 (gs L) = chain at_ ((gs L).drop q) ∧ Held (w.alloc (.cells #[.int .u64 b, .int .u64 t, .int .u64 kn, .slice (some ⟨b1, off, none⟩) n cap] 28)) wr) (fun _ i _ => n - (RowKit.intOf i).toNat)
  case atStart => exact ⟨0, f0, rfl, rfl, Nat.zero_le _, rfl, HA2.out⟩
  case round =>
    obtain ⟨q, at_, rfl, rfl, hq, hch, hh⟩ := hrel
    have HCH := Lib.hid hch
    have HH := Lib.hid (HA.out.step hh)
    obtain ⟨c0, c1, c2, c3⟩ := HK.out _ hh
    have HHA := Lib.hid hh
    clear hch hh x0 x1 x2 hbn hbn2
    by_cases hlt : q < n
    · obtain ⟨b1', off', f', kn', A', n', cap', es', he, hb1', hx, x0, x1, x2⟩ := segAt HS.out HH.out (k := q) hlt
      injection he with he
      injection he with he1 he2
      subst he1 he2
      have z2 : (q : Int) < n := by omega
      have z3 : (0 : Int) ≤ q := by omega
      have hz := HH.out.le
      have hbw : b1 < wr.heap.size := by omega
      have hbn : ¬ b1 = wr.heap.size := by omega
      have hwn : ¬ w.heap.size = wr.heap.size := by have := HHA.out.le; simp at this; omega
      have HC := Lib.hid (chain_at (at_ := at_) hx)
      have SG := Lib.hid (HG.out.at_ hx)
      have WN := Lib.hid ((Held.refl wr).alloc (.cells #[.int .u64 f', .int .u64 kn', .slice A' n' cap'] 25))
      clear hx hb1' hz
      by_cases he : f' = at_
      · subst he
        have HE := Lib.hid (encodes_any f' kn' A' n' cap' es' B (wr.alloc (.cells #[.int .u64 f', .int .u64 kn', .slice A' n' cap'] 25)) (SG.out.held (HH.out.step WN.out)))
        obtain ⟨so, hso⟩ : ∃ so, segOk ⟨f', kn', es'⟩ = so := ⟨_, rfl⟩
        rw [hso] at HE
        have HC2 : Is (chain f' ((gs L).drop q)) (if so = true then chain kn' ((gs L).drop (q + 1)) else none) := ⟨by rw [HC.out]; simp only [SR.g, decide_true, Bool.true_and, hso]⟩
        have hK2 := Bx.new wr (.cells #[.int .u64 f', .int .u64 kn', .slice A' n' cap'] 25)
        clear HC hso
        go_wp2_with fail
        refine HE.out.mono ?_
        rintro e w3 ⟨rfl, h3⟩
        have hK3 := Bx.held hK2 h3
        have d1 := Bx.cell hK3 1 rfl
        have HHB := Lib.hid ((HHA.out.step WN.out).step h3)
        obtain ⟨c0', c1', c2', c3'⟩ := HK.out _ HHB.out
        clear hK3 hK2 h3 HE x0 x1 x2 c0 c1 c2 c3
        cases so
        · have HR5 : Is r false := ⟨by rw [HR4.out, HCH.out, HC2.out]; rfl⟩
          clear HR4 HCH HC2
          go_wp2
          go_ret
          exact BoolTo.mk HR5.out.symm (HA.out.step HHB.out)
        · have HCH2 := Lib.hid (HCH.out.trans HC2.out)
          clear HC2 HCH
          go_wp2
          go_roundw
          case rel => exact ⟨q + 1, kn', rfl, by go_num, by omega, HCH2.out, HHB.out⟩
          case measure => (simp [RowKit.intOf]) <;> omega
      · have he1 : ((f' : Int) == at_) = false := by rw [beq_eq_false_iff_ne]; omega
        have he2 : (f' == at_) = false := by rw [beq_eq_false_iff_ne]; exact he
        have HR5 : Is r false := ⟨by rw [HR4.out, HCH.out, HC.out, if_neg (by simp [he])]; rfl⟩
        clear HR4 HCH HC
        go_wp2
        go_ret
        exact BoolTo.mk HR5.out.symm (HH.out.step WN.out)
    · obtain rfl : q = n := by omega
      have z2 : ¬ (q : Int) < q := by omega
      have HR5 : Is r (decide (at_ = t)) := ⟨by rw [HR4.out, HCH.out, chain_end HL.out]; by_cases e : at_ = t <;> simp [e]⟩
      clear HR4 HCH
      by_cases he : t = at_
      · subst he
        have HR6 : Is r true := ⟨by rw [HR5.out]; simp⟩
        clear HR5
        go_wp2
        go_ret
        exact BoolTo.mk HR6.out.symm HH.out
      · have he1 : ((t : Int) == at_) = false := by rw [beq_eq_false_iff_ne]; omega
        have he2 : (t == at_) = false := by rw [beq_eq_false_iff_ne]; exact he
        have HR6 : Is r false := ⟨by rw [HR5.out]; exact decide_eq_false (fun h => he h.symm)⟩
        clear HR5
        go_wp2
        go_ret
        exact BoolTo.mk HR6.out.symm HH.out
end St
end Go.Proofs.YthpjbffhdaaibaaGreat

set_option linter.unusedVariables false
set_option linter.unusedSimpArgs false
set_option maxRecDepth 100000
namespace Go.Proofs.YthpjbffhdaaibaaGreat
open Go.RowKit Go.BigFrame Go.Sort Go.Lib
namespace St
open Enc Uv Lg Lgc Strs
set_option maxHeartbeats 1000000 in
theorem copyReceiver_any (b kn : Nat) (A : Option Addr) (n cap : Nat) (L : List ErR) (B : Nat) (w : World) (hB : B ≤ w.heap.size) (h : Sl 4 erC w A n L) (hg : Ers B w L) (hn : n ≤ 1000000) :
    Calls Tryz.prog 59 #[.agg #[.int .u64 b, .int .u64 kn, .slice A n cap]] w (RcvTo B ⟨b, kn, ers L⟩ w) := by
  have HS := Lib.hid h
  have HG := Lib.hid hg
  have HL : Is L.length n := ⟨h.1⟩
  have HBB := Lib.hid hB
  have hn2 : (n : Int) ≤ 1000000 := by omega
  have M : Hid (Mem w _ [.box w.heap.size #[.int .u64 b, .int .u64 kn, .slice A n cap] 31, .box (w.heap.size + 1) #[.int .u64 0, .int .u64 0, .slice none 0 0] 31]) :=
    ((Mem.start w).alloc' (b := w.heap.size) rfl _ _).alloc' (b := w.heap.size + 1) (by simp) _ _
  clear h hg hB
  go_enter Tryz.func59, Tryz.ntmps59
  go_wp2_with (at_make; refine Mem.wp_make0 (f := erC) M.out rfl _ _ 29 rfl (.agg #[.int .u64 0, .int .u64 0, .int .u64 0, .slice none 0 0]) 48 Tryz.underlying29 info_er .i64 .i64 _ (n + 1) rfl rfl (by go_num) (by omega) (by unfold maxLen; omega) ?_; intro w7 M7 h7; rw [alloc2_size] at M7; have M8 := Lib.hid M7; clear M7; obtain ⟨⟨c0, c1, c2⟩, _, hl0⟩ := M8.out.box3 0 rfl)
  clear M h7
  go_loopw [3, 14] (fun v i wr => ∃ (q : Nat) (R : List ErR), i = .int .i64 (q : Int) ∧ q ≤ n ∧ R.length = q ∧ ers R = ers (L.take q) ∧ Ers B wr R ∧ Mem w wr [.box w.heap.size #[.int .u64 b, .int .u64 kn, .slice A n cap] 31, .box (w.heap.size + 1) #[.int .u64 0, .int .u64 0, .slice none 0 0] 31, .row 72 4 erC w.heap.size v R]) (fun _ i _ => n - (RowKit.intOf i).toNat)
  case atStart => exact ⟨0, [], rfl, Nat.zero_le _, rfl, rfl, Ers.nil _ _, M8.out⟩
  case round =>
    obtain ⟨q, R, rfl, hq, hRq, hRg, hRs, hM⟩ := hrel
    obtain ⟨A2, cap2, rfl, hcap2, _⟩ := (hM.row 2 rfl).shape
    have HRQ : Is R.length q := ⟨hRq⟩
    have HRG := Lib.hid hRg
    have HRS := Lib.hid hRs
    have M := Lib.hid hM
    rw [hRq] at M hcap2 ⊢
    clear hRg hRs hM hRq M8 c0 c1 c2 hl0
    by_cases hlt : q < n
    · obtain ⟨b1, off, s', f', kn', A', n', cap', es', rfl, hb1, hx, x0, x1, x2, x3⟩ := erAt HS.out M.out.held (k := q) hlt
      have z2 : (q : Int) < n := by omega
      have z3 : (0 : Int) ≤ q := by omega
      have SG := Lib.hid (HG.out.at_ hx).1
      have hsl := (HG.out.at_ hx).2
      have HX := Lib.hid hx
      have hz := M.out.held.le
      have hbw : b1 < wr.heap.size := by omega
      have hbn : ¬ b1 = wr.heap.size := by omega
      have M2 := Lib.hid (M.out.alloc #[.int .u64 s', .int .u64 f', .int .u64 kn', .slice A' n' cap'] 72)
      have HC := Lib.hid fun (w' : World) (k' : Held (wr.alloc (.cells #[.int .u64 s', .int .u64 f', .int .u64 kn', .slice A' n' cap'] 72)) w') => copy_any f' kn' A' n' cap' es' B w' (SG.out.held (M2.out.held.step k'))
      obtain ⟨⟨d0, d1, d2, d3⟩, _, hd⟩ := M2.out.box4 3 rfl
      obtain ⟨we, hwe⟩ : ∃ we, wr.alloc (.cells #[.int .u64 s', .int .u64 f', .int .u64 kn', .slice A' n' cap'] 72) = we := ⟨_, rfl⟩
      have R2 := Lib.hid (HRS.out.held ((Held.refl wr).alloc (.cells #[.int .u64 s', .int .u64 f', .int .u64 kn', .slice A' n' cap'] 72)))
      have HWE := Lib.hid hwe
      rw [hwe] at HC M2 d0 d1 d2 d3 hd R2
      clear hx hb1 hz hwe M HRS
      go_wp2
      rw [HWE.out]
      clear x0 x1 x2 x3
      go_region_held3 (fun w' => w'.cell? ⟨wr.heap.size, 0, none⟩ = some (.int .u64 s') ∧ w'.cell? ⟨wr.heap.size, 1, none⟩ = some (.int .u64 f') ∧ w'.cell? ⟨wr.heap.size, 2, none⟩ = some (.int .u64 kn') ∧ w'.cell? ⟨wr.heap.size, 3, none⟩ = some (.slice A' n' cap'))
        ((repeat' refine And.intro ?_ ?_) <;> first | exact d0 | exact d1 | exact d2 | exact d3 | exact p0 | exact p1 | exact p2 | exact p3 | exact q0 | exact q1 | exact q2 | exact q3 | exact r0 | exact r1 | exact r2 | exact r3)
        (first
        | (go_at_call 54; refine (HC.out _ (Held.refl we).drew).mono ?_; rintro e w3 ⟨A3, n3, cap3, rfl, hs3, h3⟩; dsimp only at hs3 ⊢; have M3 := Lib.hid ((M2.out.drew.keep h3)); obtain ⟨⟨p0, p1, p2, p3⟩, _, _⟩ := M3.out.box4 3 rfl; have M3b := Lib.hid (M3.out.skip (.cells #[.int .u64 s', .int .u64 f', .int .u64 kn', .slice A3 n3 cap3] 72)); have S3 := Lib.hid ((hs3 B).held ((Held.refl w3).alloc (.cells #[.int .u64 s', .int .u64 f', .int .u64 kn', .slice A3 n3 cap3] 72))); have R3 := Lib.hid (R2.out.held (((Held.refl we).drew.step h3).alloc (.cells #[.int .u64 s', .int .u64 f', .int .u64 kn', .slice A3 n3 cap3] 72))); obtain ⟨⟨q0, q1, q2, q3⟩, _, _⟩ := M3b.out.box4 3 rfl; clear hs3 h3)
        | (refine Mem.step_appC M3b.out 2 rfl (by rfl) _ _ _ (by rfl) _ 48 Tryz.underlying29 info_er (by rfl) (by decide) erC_len erC_one ⟨s', f', kn', A3, n3, cap3, es'⟩ ⟨w3.heap.size, 0, none⟩ 1 (by rfl) (by rfl) (cells_new _ rfl _ _) q HRQ.out (by omega) (by decide) ?_; intro g4 cp4 w4 M4' k4; have M4 := Lib.hid M4'; have K4 := Lib.hid k4; obtain ⟨⟨r0, r1, r2, r3⟩, _, _⟩ := M4'.box4 3 rfl; clear M4' k4))
      go_wp2
      go_roundw
      case rel =>
        have kk := K4.out 70 B (by decide) HBB.out
        refine ⟨q + 1, R ++ [(⟨s', f', kn', A3, n3, cap3, es'⟩ : ErR)], by go_num, by omega, by rw [List.length_append, HRQ.out]; rfl, ?_, (R3.out.chg kk).snoc ⟨S3.out.chg kk, hsl⟩, M4.out.take 3⟩
        have hql : q < L.length := by rw [HL.out]; exact hlt
        have hLq : L[q] = ⟨s', f', kn', A', n', cap', es'⟩ := by have := HX.out; rw [List.getElem?_eq_getElem hql] at this; injection this
        rw [List.take_succ_eq_append_getElem hql, hLq]
        have := HRG.out
        unfold ers at this ⊢
        rw [List.map_append, List.map_append, this]; rfl
      case measure => (simp [RowKit.intOf]) <;> omega
    · obtain rfl : q = n := by omega
      have z2 : ¬ (q : Int) < q := by omega
      obtain ⟨⟨c0, c1, c2⟩, ⟨f0, f1, f2⟩, hl0⟩ := M.out.box3 0 rfl
      obtain ⟨⟨d0, d1, d2⟩, ⟨g0, g1, g2⟩, hl1⟩ := M.out.box3 1 rfl
      have hne : ¬ w.heap.size = w.heap.size + 1 := by omega
      have hne2 : ¬ w.heap.size + 1 = w.heap.size := by omega
      go_wp2
      have MF := (((M.out.put 0 rfl 2 (.slice A2 q cap2)).put 1 rfl 0 (.int .u64 b)).put 1 rfl 1 (.int .u64 kn)).put 1 rfl 2 (.slice A2 q cap2)
      refine bodyPost_ret (Bx.res_c Tryz.results59 rfl (rcv_load (MF.blk 1 rfl))) rfl ?_
      have k1 := M.out.chgPut 0 rfl 2 (.slice A2 q cap2) (T := 70) (by decide) HBB.out
      have MA := M.out.put 0 rfl 2 (.slice A2 q cap2)
      have k2 := MA.chgPut 1 rfl 0 (.int .u64 b) (T := 70) (by decide) HBB.out
      have MB := MA.put 1 rfl 0 (.int .u64 b)
      have k3 := MB.chgPut 1 rfl 1 (.int .u64 kn) (T := 70) (by decide) HBB.out
      have MC := MB.put 1 rfl 1 (.int .u64 kn)
      have k4 := MC.chgPut 1 rfl 2 (.slice A2 q cap2) (T := 70) (by decide) HBB.out
      refine ⟨A2, q, cap2, rfl, ⟨R, ?_, MF.row 2 rfl, ((((HRS.out.chg k1).chg k2).chg k3).chg k4)⟩, MF.held⟩
      have := HRG.out
      rw [List.take_of_length_le (by rw [HL.out]; exact Nat.le_refl _)] at this
      exact this
end St
end Go.Proofs.YthpjbffhdaaibaaGreat

set_option linter.unusedVariables false
set_option linter.unusedSimpArgs false
set_option maxRecDepth 100000
namespace Go.Proofs.YthpjbffhdaaibaaGreat
open Go.RowKit Go.BigFrame Go.Sort Go.Lib
namespace St
open Enc Uv Lg Lgc Strs
theorem rcv_b {R : Rcv} (h : ¬ (1 ≤ R.n ∧ R.n ≤ 4611686018427387904 ∧ R.e.length ≤ 7)) : receiving R = false := by
  cases e : receiving R
  · rfl
  · unfold receiving at e
    simp only [Bool.and_eq_true, decide_eq_true_eq] at e
    exact absurd ⟨e.1.1.1, e.1.1.2, e.1.2⟩ h
theorem rcv_q {R : Rcv} (h : 1 ≤ R.n ∧ R.n ≤ 4611686018427387904 ∧ R.e.length ≤ 7) : receiving R = asc R.n R.n R.e := by
  unfold receiving
  rw [decide_eq_true h.1, decide_eq_true h.2.1, decide_eq_true h.2.2]; rfl
theorem ers_len (R : List ErR) : (ers R).length = R.length := List.length_map _
theorem asc_at {n a : Nat} {L : List ErR} {q : Nat} {x : ErR} (h : L[q]? = some x) : asc n a ((ers L).drop q) = (decide (a < x.s) && decide (x.s < n + 8) && segOk x.x.g && asc n x.s ((ers L).drop (q + 1))) := by
  obtain ⟨hl, rfl⟩ := List.getElem?_eq_some_iff.1 h
  have hl2 : q < (ers L).length := by rw [ers_len]; exact hl
  have e : (ers L)[q]'hl2 = L[q].e := List.getElem_map ErR.e
  rw [List.drop_eq_getElem_cons hl2, asc, e]; rfl
theorem asc_end {n a : Nat} {L : List ErR} {q : Nat} (h : L.length = q) : asc n a ((ers L).drop q) = true := by
  rw [List.drop_of_length_le (by rw [ers_len]; omega)]; rfl
set_option maxHeartbeats 1000000 in
theorem receiving_any (b kn : Nat) (A : Option Addr) (n cap : Nat) (L : List ErR) (B : Nat) (w : World) (h : Sl 4 erC w A n L) (hg : Ers B w L) (hn : n ≤ 1000000) :
    Calls Tryz.prog 15 #[.agg #[.int .u64 b, .int .u64 kn, .slice A n cap]] w (BoolTo (receiving ⟨b, kn, ers L⟩) w) := by
  have HS := Lib.hid h
  have HG := Lib.hid hg
  have HL : Is L.length n := ⟨h.1⟩
  have hn2 : (n : Int) ≤ 1000000 := by omega
  have hql : (ers L).length = n := by rw [ers_len]; exact h.1
  have HA := Lib.hid ((Held.refl w).alloc (.cells #[.int .u64 b, .int .u64 kn, .slice A n cap] 31))
  have HK := Lib.hid fun (w' : World) (k : Held (w.alloc (.cells #[.int .u64 b, .int .u64 kn, .slice A n cap] 31)) w') => And.intro (Bx.cell (Bx.held (Bx.new w _) k) 0 rfl) (And.intro (Bx.cell (Bx.held (Bx.new w _) k) 1 rfl) (Bx.cell (Bx.held (Bx.new w _) k) 2 rfl))
  obtain ⟨r, hr⟩ : ∃ r, receiving ⟨b, kn, ers L⟩ = r := ⟨_, rfl⟩
  rw [hr]
  have HNO : Hid (¬ (1 ≤ b ∧ b ≤ 4611686018427387904 ∧ n ≤ 7) → r = false) := fun h => by rw [← hr]; exact rcv_b (by simp only; rw [hql]; exact h)
  have HYES : Hid (1 ≤ b ∧ b ≤ 4611686018427387904 ∧ n ≤ 7 → r = asc b b (ers L)) := fun h => by rw [← hr]; exact rcv_q (by simp only; rw [hql]; exact h)
  clear h hg hr hql
  by_cases h1 : (b : Int) < 1
  · have HR := Lib.hid (HNO.out (by omega))
    clear HNO HYES
    go_enter Tryz.func15, Tryz.ntmps15
    go_wp2
    go_ret
    exact BoolTo.mk HR.out.symm HA.out
  have h1d : decide ((b : Int) < 1) = false := decide_eq_false h1
  by_cases h2 : (4611686018427387904 : Int) < b
  · have HR := Lib.hid (HNO.out (by omega))
    clear HNO HYES
    go_enter Tryz.func15, Tryz.ntmps15
    go_wp2
    go_ret
    exact BoolTo.mk HR.out.symm HA.out
  have h2d : decide ((4611686018427387904 : Int) < b) = false := decide_eq_false h2
  by_cases h3 : (7 : Int) < n
  · have HR := Lib.hid (HNO.out (by omega))
    clear HNO HYES
    go_enter Tryz.func15, Tryz.ntmps15
    go_wp2
    go_ret
    exact BoolTo.mk HR.out.symm HA.out
  have h3d : decide ((7 : Int) < n) = false := decide_eq_false h3
  have HR := Lib.hid (HYES.out (by omega))
  clear HNO HYES
  have hb8 : (b : Int) + 8 ≤ 18446744073709551615 := by omega
  have hb0 : (0 : Int) ≤ (b : Int) + 8 := by omega
  go_enter Tryz.func15, Tryz.ntmps15
  go_wp2
  go_loopw [3, 25] (fun a i wr => ∃ q at_ : Nat, a = .int .u64 (at_ : Int) ∧ i = .int .i64 (q : Int) ∧ q ≤ n ∧ asc b b (ers L) = asc b at_ ((ers L).drop q) ∧ Held (w.alloc (.cells #[.int .u64 b, .int .u64 kn, .slice A n cap] 31)) wr) (fun _ i _ => n - (RowKit.intOf i).toNat)
  case atStart => exact ⟨0, b, rfl, rfl, Nat.zero_le _, rfl, Held.refl _⟩
  case round =>
    obtain ⟨q, at_, rfl, rfl, hq, hch, hh⟩ := hrel
    have HCH := Lib.hid hch
    have HH := Lib.hid (HA.out.step hh)
    obtain ⟨c0, c1, c2⟩ := HK.out _ hh
    have HHA := Lib.hid hh
    clear hch hh
    by_cases hlt : q < n
    · obtain ⟨b1, off, s', f', kn', A', n', cap', es', rfl, hb1, hx, x0, x1, x2, x3⟩ := erAt HS.out HH.out (k := q) hlt
      have z2 : (q : Int) < n := by omega
      have z3 : (0 : Int) ≤ q := by omega
      have hz := HH.out.le
      have hbw : b1 < wr.heap.size := by omega
      have hbn : ¬ b1 = wr.heap.size := by omega
      have hwn : ¬ w.heap.size = wr.heap.size := by have := HHA.out.le; simp at this; omega
      have hwl : w.heap.size < wr.heap.size := by have := HHA.out.le; simp at this; omega
      have HC := Lib.hid (asc_at (n := b) (a := at_) hx)
      have SG := Lib.hid (HG.out.at_ hx).1
      have WN := Lib.hid ((Held.refl wr).alloc (.cells #[.int .u64 s', .int .u64 f', .int .u64 kn', .slice A' n' cap'] 72))
      have hK2 := Bx.new wr (.cells #[.int .u64 s', .int .u64 f', .int .u64 kn', .slice A' n' cap'] 72)
      have HE := Lib.hid (encodes_any f' kn' A' n' cap' es' B (wr.alloc (.cells #[.int .u64 s', .int .u64 f', .int .u64 kn', .slice A' n' cap'] 72)) (SG.out.held (HH.out.step WN.out)))
      obtain ⟨so, hso⟩ : ∃ so, segOk ⟨f', kn', es'⟩ = so := ⟨_, rfl⟩
      rw [hso] at HE
      have HC2 : Is (asc b at_ ((ers L).drop q)) (decide (at_ < s') && decide (s' < b + 8) && so && asc b s' ((ers L).drop (q + 1))) := ⟨by rw [HC.out]; simp only [SR.g, hso]⟩
      clear hx hb1 hz HC hso
      by_cases t1 : (s' : Int) ≤ at_
      · have HR5 : Is r false := ⟨by rw [HR.out, HCH.out, HC2.out, decide_eq_false (show ¬ at_ < s' by omega)]; rfl⟩
        clear HR HCH HC2 HE
        go_wp2
        go_ret
        exact BoolTo.mk HR5.out.symm (HH.out.step WN.out)
      have t1d : decide ((s' : Int) ≤ at_) = false := decide_eq_false t1
      have t1n : decide (s' ≤ at_) = false := decide_eq_false (by omega)
      by_cases t2 : (b : Int) + 8 ≤ s'
      · have HR5 : Is r false := ⟨by rw [HR.out, HCH.out, HC2.out, decide_eq_false (show ¬ s' < b + 8 by omega)]; simp⟩
        clear HR HCH HC2 HE
        go_wp2
        go_ret
        exact BoolTo.mk HR5.out.symm (HH.out.step WN.out)
      have t2d : decide ((b : Int) + 8 ≤ s') = false := decide_eq_false t2
      have HC3 : Is (asc b at_ ((ers L).drop q)) (so && asc b s' ((ers L).drop (q + 1))) := ⟨by rw [HC2.out, decide_eq_true (show at_ < s' by omega), decide_eq_true (show s' < b + 8 by omega)]; rfl⟩
      clear HC2
      go_wp2_with fail
      refine HE.out.mono ?_
      rintro e w3 ⟨rfl, h3⟩
      have hK3 := Bx.held hK2 h3
      have d0 := Bx.cell hK3 0 rfl
      have HHB := Lib.hid ((HHA.out.step WN.out).step h3)
      obtain ⟨c0', c1', c2'⟩ := HK.out _ HHB.out
      clear hK3 hK2 h3 HE x0 x1 x2 x3 c0 c1 c2
      cases so
      · have HR5 : Is r false := ⟨by rw [HR.out, HCH.out, HC3.out]; rfl⟩
        clear HR HCH HC3
        go_wp2
        go_ret
        exact BoolTo.mk HR5.out.symm (HA.out.step HHB.out)
      · have HCH2 := Lib.hid (HCH.out.trans HC3.out)
        clear HC3 HCH
        go_wp2
        go_roundw
        case rel => exact ⟨q + 1, s', rfl, by go_num, by omega, by rw [HCH2.out]; rfl, HHB.out⟩
        case measure => (simp [RowKit.intOf]) <;> omega
    · obtain rfl : q = n := by omega
      have z2 : ¬ (q : Int) < q := by omega
      have HR5 : Is r true := ⟨by rw [HR.out, HCH.out, asc_end HL.out]⟩
      clear HR HCH
      go_wp2
      go_ret
      exact BoolTo.mk HR5.out.symm HH.out
end St
end Go.Proofs.YthpjbffhdaaibaaGreat

set_option linter.unusedVariables false
set_option linter.unusedSimpArgs false
set_option maxRecDepth 100000
namespace Go.Proofs.YthpjbffhdaaibaaGreat
open Go.RowKit Go.BigFrame Go.Sort Go.Lib
namespace St
open Enc Uv Lg Lgc Strs
theorem res_cc {fn : Func} {tmps : Array Value} {w : World} {a b a' b' : Nat} {t t' : TypeId} {v v' : Value} (hr : fn.results = #[.cell a t, .cell a' t']) (ha : tmps.getD a undef = .pointer (some ⟨b, 0, none⟩)) (ha' : tmps.getD a' undef = .pointer (some ⟨b', 0, none⟩)) (hl : (loadVar t ⟨b, 0, none⟩).run Tryz.prog w = .ok v w) (hl' : (loadVar t' ⟨b', 0, none⟩).run Tryz.prog w = .ok v' w) : (results fn tmps).run Tryz.prog w = .ok (.tuple #[v, v']) w := by
  unfold results
  rw [hr]
  simp only [List.mapM_toArray, List.mapM_cons, List.mapM_nil, ha, ha', asAddr, pure_bind, Sem.run_bind, Sem.run_map, hl, hl', Result.andThen_ok, Sem.run_pure, map_pure]
  rfl
/-- Both sides of a new stream. -/
def NewTo (at_ : Nat) (w : World) (e : Ending) (w' : World) : Prop := e = .returned (.tuple #[.agg #[.int .u64 1, .int .u64 at_, .int .u64 at_, .slice none 0 0], .agg #[.int .u64 1, .int .u64 at_, .slice none 0 0]]) ∧ Held w w'
theorem new_any (at_ : Nat) (w : World) : Calls Tryz.prog 28 #[.int .u64 at_] w (NewTo at_ w) := by
  have M : Hid (Mem w ((w.alloc (.cells #[.int .u64 1, .int .u64 at_, .int .u64 at_, .slice none 0 0] 28)).alloc (.cells #[.int .u64 1, .int .u64 at_, .slice none 0 0] 31)) [.box w.heap.size #[.int .u64 1, .int .u64 at_, .int .u64 at_, .slice none 0 0] 28, .box (w.heap.size + 1) #[.int .u64 1, .int .u64 at_, .slice none 0 0] 31]) :=
    ((Mem.start w).alloc' (b := w.heap.size) rfl _ _).alloc' (b := w.heap.size + 1) (by simp) _ _
  go_enter Tryz.func28, Tryz.ntmps28
  go_wp2
  refine bodyPost_ret (res_cc Tryz.results28 rfl rfl (snd_load (M.out.blk 0 rfl)) (rcv_load (M.out.blk 1 rfl))) rfl ?_
  exact ⟨rfl, M.out.held⟩
theorem opens_len (l : List UInt8) : (opens l).2.1.length ≤ l.length := by
  have h1 := numR_len l false
  have h2 := (dataR_len (numR l false).2.1 (numR l false).2.2).1
  unfold opens
  split
  · exact Nat.zero_le _
  · split
    · exact Nat.zero_le _
    · show (opR l).1.length ≤ _
      unfold opR; omega
theorem opened_len (l : List UInt8) (m : UInt8) : (opened l m).2.1.length ≤ l.length := by
  have h := opens_len l
  unfold opened opened1
  split
  · exact Nat.zero_le _
  · split
    · exact Nat.zero_le _
    · rename_i c t e
      split
      · simp only; rw [e, List.length_cons] at h; omega
      · exact Nat.zero_le _
/-- A call hands back what a packet holds. -/
def OpenTo (r : Nat × List UInt8 × Bool) (w : World) (e : Ending) (w' : World) : Prop := ∃ s : ByteArray, e = .returned (.tuple #[.int .u64 r.1, .string s, .bool r.2.2]) ∧ s.data.toList = r.2.1 ∧ Held w w'
theorem OpenTo.mk {r : Nat × List UInt8 × Bool} {n : Nat} {s : ByteArray} {b : Bool} {w w' : World} (h : r = (n, s.data.toList, b)) (k : Held w w') : OpenTo r w (.returned (.tuple #[.int .u64 n, .string s, .bool b])) w' := by
  subst h; exact ⟨s, rfl, rfl, k⟩
set_option maxHeartbeats 1000000 in
theorem openBody_any (s : ByteArray) (m : UInt8) (hs : (s.size : Int) ≤ 1000000000000) (w : World) : Calls Tryz.prog 55 #[.string s, .int .u8 (m.toNat : Int)] w (OpenTo (opened s.data.toList m) w) := by
  have HO := Lib.hid (open_any s hs w)
  have HB : Is (opened s.data.toList m) (opened1 (opens s.data.toList) m) := ⟨rfl⟩
  obtain ⟨o, ho⟩ : ∃ o, opened s.data.toList m = o := ⟨_, rfl⟩
  obtain ⟨p, hp⟩ : ∃ p, opens s.data.toList = p := ⟨_, rfl⟩
  have hpl : p.2.1.length ≤ s.size := by rw [← hp, ← len_eq]; exact opens_len _
  rw [hp] at HO HB
  rw [ho] at HB ⊢
  obtain ⟨n, bd, er⟩ := p
  dsimp only at hpl
  clear hp ho
  go_enter Tryz.func55, Tryz.ntmps55
  go_wp2_with fail
  refine HO.out.mono ?_
  rintro e w2 ⟨rfl, h2⟩
  have W2 := Lib.hid h2
  clear h2 HO
  dsimp only
  by_cases her : ¬ er = 0
  · have her2 : (er == 0) = false := by rw [beq_eq_false_iff_ne]; exact her
    have HB2 : Is o (0, [], false) := ⟨by rw [HB.out]; unfold opened1; rw [if_pos her]⟩
    clear HB
    go_wp2
    go_ret3
    exact OpenTo.mk (by rw [HB2.out]) W2.out
  have her := Decidable.not_not.1 her
  subst her
  cases bd with
  | nil =>
    have HB2 : Is o (0, [], false) := ⟨by rw [HB.out]; rfl⟩
    clear HB
    go_wp2
    go_ret3
    exact OpenTo.mk (by rw [HB2.out]) W2.out
  | cons c tl =>
    have HB2 : Is o (if c = m then (n, tl, true) else (0, [], false)) := ⟨by rw [HB.out]; rfl⟩
    clear HB
    obtain ⟨bs, hbs⟩ : ∃ bs : ByteArray, bs = ⟨(c :: tl).toArray⟩ := ⟨_, rfl⟩
    rw [← hbs]
    have hbl : bs.data.toList = c :: tl := by rw [hbs]
    have hsz : bs.size = tl.length + 1 := by rw [← len_eq, hbl]; rfl
    have hne : (bs.toList == []) = false := by rw [ByteArray.toList_eq, hbl]; rfl
    have hpos : (0 : Int) < bs.size := by omega
    have hpos2 : (1 : Int) ≤ bs.size := by omega
    have h0 : bs[0]'(by omega) = c := by
      have : bs.data.toList[0]'(by rw [hbl]; exact Nat.zero_lt_succ _) = c := by simp [hbl]
      rw [Array.getElem_toList] at this
      exact this
    clear hbs
    by_cases hc : c = m
    · have HB3 : Is o (n, tl, true) := ⟨by rw [HB2.out, if_pos hc]⟩
      clear HB2
      go_wp2
      go_region
      go_wp2
      go_ret3
      exact OpenTo.mk (by rw [HB3.out, ← hsz, ext_drop, hbl]; rfl) W2.out.drew
    · have HB3 : Is o (0, [], false) := ⟨by rw [HB2.out, if_neg hc]⟩
      have hcb : (c == m) = false := by rw [beq_eq_false_iff_ne]; exact hc
      have hcn : ¬ c.toNat = m.toNat := fun e => hc (UInt8.toNat_inj.1 e)
      have hcz : ((c.toNat : Int) == m.toNat) = false := by rw [beq_eq_false_iff_ne]; omega
      clear HB2
      go_wp2
      go_ret3
      exact OpenTo.mk (by rw [HB3.out]) W2.out
end St
end Go.Proofs.YthpjbffhdaaibaaGreat

set_option linter.unusedVariables false
set_option linter.unusedSimpArgs false
set_option maxRecDepth 100000
namespace Go.Proofs.YthpjbffhdaaibaaGreat
open Go.RowKit Go.BigFrame Go.Sort Go.Lib
namespace St
open Enc Uv Lg Lgc Strs
theorem mark_list (c : UInt8) (l : List UInt8) : ((⟨#[c]⟩ : ByteArray) ++ ⟨l.toArray⟩).data.toList = c :: l := by simp
theorem mark_size (c : UInt8) (l : List UInt8) : ((⟨#[c]⟩ : ByteArray) ++ ⟨l.toArray⟩).size = l.length + 1 := by rw [← len_eq, mark_list]; rfl
set_option maxHeartbeats 1000000 in
theorem reply_any (b kn : Nat) (A : Option Addr) (n cap : Nat) (L : List ErR) (B : Nat) (w : World) (h : Sl 4 erC w A n L) (hg : Ers B w L) (hn : n ≤ 1000000) (hb : (b : Int) ≤ 18446744073709551615) (hk : (kn : Int) ≤ 18446744073709551615) :
    Calls Tryz.prog 17 #[.agg #[.int .u64 b, .int .u64 kn, .slice A n cap]] w (MakesS (reply ⟨b, kn, ers L⟩) w) := by
  have HA := Lib.hid ((Held.refl w).alloc (.cells #[.int .u64 b, .int .u64 kn, .slice A n cap] 31))
  have H1 := Lib.hid (receiving_any b kn A n cap L B (w.alloc (.cells #[.int .u64 b, .int .u64 kn, .slice A n cap] 31)) (h.held HA.out) (fun x hx => ⟨((hg x hx).1.held HA.out), (hg x hx).2⟩) hn)
  have HK := Lib.hid fun (w' : World) (k : Held (w.alloc (.cells #[.int .u64 b, .int .u64 kn, .slice A n cap] 31)) w') => And.intro (Bx.cell (Bx.held (Bx.new w _) k) 0 rfl) (Bx.cell (Bx.held (Bx.new w _) k) 1 rfl)
  have HB : Is (reply ⟨b, kn, ers L⟩) (if receiving ⟨b, kn, ers L⟩ = true then packed b (65 :: put kn) else []) := ⟨rfl⟩
  obtain ⟨r, hr⟩ : ∃ r, reply ⟨b, kn, ers L⟩ = r := ⟨_, rfl⟩
  obtain ⟨v, hv⟩ : ∃ v, receiving ⟨b, kn, ers L⟩ = v := ⟨_, rfl⟩
  rw [hv] at H1 HB
  rw [hr] at HB ⊢
  have lp := put_len kn (by omega)
  have P1 := Lib.hid fun w => put_any kn hk w
  have P2 := Lib.hid fun w => pack_any b (⟨#[65]⟩ ++ ⟨(put kn).toArray⟩) hb (by rw [mark_size]; omega) w
  rw [mark_list] at P2
  generalize put kn = p at P1 P2 HB lp
  obtain ⟨q, hq⟩ : ∃ q, packed b (65 :: p) = q := ⟨_, rfl⟩
  rw [hq] at P2 HB
  clear hr hv hq h hg
  go_enter Tryz.func17, Tryz.ntmps17
  go_wp2_with fail
  refine H1.out.mono ?_
  rintro e w2 ⟨rfl, h2⟩
  obtain ⟨c0, c1⟩ := HK.out _ h2
  have W2 := Lib.hid (HA.out.step h2)
  clear h2 H1
  cases v
  · have HB2 : Is r [] := ⟨HB.out⟩
    clear HB
    go_wp2
    go_ret
    exact ⟨by rw [HB2.out]; rfl, W2.out⟩
  · have HB2 : Is r q := ⟨HB.out⟩
    clear HB
    go_wp2
    have k0 := cell_regrown c0
    have k1 := cell_regrown c1
    have cA := Lib.hid fun d os => Calls.regrown_of (d := d) (os := os) (P1.out (grow (redrawn w2 d) os))
    have cB := Lib.hid fun d os => Calls.regrown_of (d := d) (os := os) (P2.out (grow (redrawn w2 d) os))
    clear c0 c1
    refine wp_region_quiet_below (by kernel_rfl) (by kernel_rfl) ?_
    repeat (go_big_quiet_step (first | (go_at_call 37; with_reducible exact cA.out _ _) | (go_at_call 51; first | (with_reducible exact cB.out _ _) | exact cB.out _ _)))
    refine wpQuiet_nil ?_
    intro _ hw'
    obtain ⟨⟨dq, osq⟩, hw''⟩ := hw'
    subst hw''
    have W3 := Lib.hid (W2.out.step (below_regrown w2 dq osq))
    clear k0 k1 cA cB
    go_wp2
    go_ret
    exact ⟨by rw [HB2.out]; rfl, W3.out⟩
def stC (s : ByteArray) : List Value := [.string s]
theorem stC_len (x : ByteArray) : (stC x).length = 1 := rfl
theorem stC_one (x : ByteArray) : ∀ u ∈ stC x, u.oneCell' = true := by
  intro u hu
  simp only [stC, List.mem_singleton] at hu
  subst hu; rfl
theorem info_str : (Tryz.prog.info? 9).map (fun i => (i.zero, i.size, i.bytes)) = some (some (.string ⟨#[]⟩), 1, 16) := by kernel_rfl
def strs (L : List (List UInt8)) : List ByteArray := L.map fun l => ⟨l.toArray⟩
/-- A call hands back a list of strings of its own. -/
def StrsTo (L : List (List UInt8)) (w : World) (e : Ending) (w' : World) : Prop := ∃ A n cap, e = .returned (.slice A n cap) ∧ Own 9 1 stC w.heap.size w' (.slice A n cap) (strs L) ∧ Held w w'
theorem packs_snoc (b : Nat) : ∀ (G : List Seg) (g : Seg), packs b (G ++ [g]) = packs b G ++ [dataP (b + G.length) g]
  | [], g => by simp [packs]
  | x :: G, g => by
    rw [List.cons_append, packs, packs, packs_snoc (b + 1) G g, List.length_cons, List.cons_append]
    congr 4; omega
theorem packs_len (b : Nat) : ∀ G : List Seg, (packs b G).length = G.length
  | [] => rfl
  | x :: G => by rw [packs, List.length_cons, packs_len (b + 1) G, List.length_cons]
set_option maxHeartbeats 1000000 in
theorem packets_any (b t kn : Nat) (A : Option Addr) (n cap : Nat) (L : List SR) (B : Nat) (w : World) (h : Sl 3 segC w A n L) (hg : Sgs B w L) (hn : n ≤ 1000000) :
    Calls Tryz.prog 20 #[.agg #[.int .u64 b, .int .u64 t, .int .u64 kn, .slice A n cap]] w (StrsTo (packets ⟨b, t, kn, gs L⟩) w) := by
  have HS := Lib.hid h
  have HG := Lib.hid hg
  have HL : Is L.length n := ⟨h.1⟩
  have hn2 : (n : Int) ≤ 1000000 := by omega
  have HA := Lib.hid ((Held.refl w).alloc (.cells #[.int .u64 b, .int .u64 t, .int .u64 kn, .slice A n cap] 28))
  have H1 := Lib.hid (sending_any b t kn A n cap L B (w.alloc (.cells #[.int .u64 b, .int .u64 t, .int .u64 kn, .slice A n cap] 28)) (h.held HA.out) (hg.held HA.out) hn)
  have M0 := Lib.hid ((Mem.start w).alloc' (b := w.heap.size) rfl #[.int .u64 b, .int .u64 t, .int .u64 kn, .slice A n cap] 28)
  have HB : Is (packets ⟨b, t, kn, gs L⟩) (if sending ⟨b, t, kn, gs L⟩ = true then packs b (gs L) else []) := ⟨rfl⟩
  obtain ⟨r, hr⟩ : ∃ r, packets ⟨b, t, kn, gs L⟩ = r := ⟨_, rfl⟩
  obtain ⟨v, hv⟩ : ∃ v, sending ⟨b, t, kn, gs L⟩ = v := ⟨_, rfl⟩
  have HSB : Hid (v = true → b ≤ 4611686018427387904) := fun e => by
    have h := hv.trans e
    unfold sending at h
    simp only [Bool.and_eq_true, decide_eq_true_eq] at h
    exact h.1.1.2
  rw [hv] at H1 HB
  rw [hr] at HB ⊢
  clear hr hv h hg
  go_enter Tryz.func20, Tryz.ntmps20
  go_wp2_with fail
  refine H1.out.mono ?_
  rintro e w2 ⟨rfl, h2⟩
  have M2 := Lib.hid (M0.out.keep h2)
  clear h2 H1 M0
  obtain ⟨⟨c0, c1, c2, c3⟩, _, hl0⟩ := M2.out.box4 0 rfl
  cases v
  · have HB2 : Is r [] := ⟨HB.out⟩
    clear HB
    go_wp2
    go_ret
    exact ⟨none, 0, 0, rfl, by rw [HB2.out]; exact Own.nil w2, M2.out.held⟩
  have HB2 : Is r (packs b (gs L)) := ⟨HB.out⟩
  have hbb := HSB.out rfl
  clear HB
  go_wp2
  have M3 := Lib.hid (M2.out.nilRow (e := 9) (s := 1) (f := stC))
  go_loopw [3, 14] (fun v i wr => ∃ q : Nat, i = .int .i64 (q : Int) ∧ q ≤ n ∧ Mem w wr [.box w.heap.size #[.int .u64 b, .int .u64 t, .int .u64 kn, .slice A n cap] 28, .row 9 1 stC w.heap.size v (strs (packs b (gs (L.take q))))]) (fun _ i _ => n - (RowKit.intOf i).toNat)
  case atStart => exact ⟨0, rfl, Nat.zero_le _, M3.out⟩
  case round =>
    obtain ⟨q, rfl, hq, hM⟩ := hrel
    obtain ⟨A2, cap2, rfl, hcap2, _⟩ := (hM.row 1 rfl).shape
    have hlq : (strs (packs b (gs (L.take q)))).length = q := by unfold strs; rw [List.length_map, packs_len, gs_len, List.length_take, HL.out]; omega
    have HLQ : Is (strs (packs b (gs (L.take q)))).length q := ⟨hlq⟩
    have M := Lib.hid hM
    rw [hlq] at M hcap2 ⊢
    clear hM hlq M2 M3 c0 c1 c2 c3 hl0
    obtain ⟨⟨c0, c1, c2, c3⟩, _, hl0⟩ := M.out.box4 0 rfl
    by_cases hlt : q < n
    · obtain ⟨b1, off, f', kn', A', n', cap', es', rfl, hb1, hx, x0, x1, x2⟩ := segAt HS.out M.out.held (k := q) hlt
      have z2 : (q : Int) < n := by omega
      have z3 : (0 : Int) ≤ q := by omega
      have SG := Lib.hid (HG.out.at_ hx)
      have HX := Lib.hid hx
      have hz := M.out.held.le
      have hbw : b1 < wr.heap.size := by omega
      have hbn : ¬ b1 = wr.heap.size := by omega
      have hwn : ¬ w.heap.size = wr.heap.size := by omega
      have hnx : Hid (strs (packs b (gs (L.take (q + 1)))) = strs (packs b (gs (L.take q))) ++ [⟨(dataP (b + q) ⟨f', kn', es'⟩).toArray⟩]) := by
        obtain ⟨hql, hxe⟩ := List.getElem?_eq_some_iff.1 hx
        show _ = _
        rw [List.take_succ_eq_append_getElem hql, hxe]
        unfold gs
        rw [List.map_append, List.map_singleton, packs_snoc]
        unfold strs
        rw [List.map_append, List.map_singleton, List.length_map, List.length_take, Nat.min_eq_left (by omega)]; rfl
      have M2 := Lib.hid (M.out.alloc #[.int .u64 f', .int .u64 kn', .slice A' n' cap'] 25)
      have HE := Lib.hid (encodeS_any f' kn' A' n' cap' es' B (wr.alloc (.cells #[.int .u64 f', .int .u64 kn', .slice A' n' cap'] 25)) (SG.out.held M2.out.held))
      have hbl := body_len ⟨f', kn', es'⟩ ⟨SG.out.f, SG.out.kn, SG.out.ok⟩
      have HD : Is (dataP (b + q) ⟨f', kn', es'⟩) (packed (b + q) (68 :: (body ⟨f', kn', es'⟩).1)) := ⟨rfl⟩
      obtain ⟨bo, hbo⟩ : ∃ bo, body ⟨f', kn', es'⟩ = bo := ⟨_, rfl⟩
      rw [hbo] at HE hbl HD
      obtain ⟨bt, be⟩ := bo
      have P2 := fun w => pack_any (b + q) (⟨#[68]⟩ ++ ⟨bt.toArray⟩) (by omega) (by rw [mark_size]; simp only at hbl; omega) w
      rw [mark_list, ← HD.out] at P2
      simp only [Int.natCast_add] at P2
      have HP2 := Lib.hid P2
      obtain ⟨dp, hdp⟩ : ∃ dp, dataP (b + q) ⟨f', kn', es'⟩ = dp := ⟨_, rfl⟩
      rw [hdp] at HP2 hnx
      clear hx hb1 hz hbo HD P2 hdp
      simp only at hbl
      go_wp2_with fail
      refine HE.out.mono ?_
      rintro e w3 ⟨rfl, h3⟩
      have M3 := Lib.hid (M2.out.keep h3)
      clear h3 HE M2 M x0 x1 x2 c0 c1 c2 c3 hl0
      obtain ⟨⟨c0, c1, c2, c3⟩, _, hl0⟩ := M3.out.box4 0 rfl
      go_wp2_with fail
      refine (HP2.out _).mono ?_
      rintro e w4 ⟨rfl, h4⟩
      have M4 := Lib.hid ((M3.out.keep h4).skip (.cells #[.string ⟨dp.toArray⟩] 9))
      clear h4 HP2 M3 c0 c1 c2 c3 hl0
      go_wp2_with (at_builtin; refine Mem.wp_app M4.out 1 rfl rfl _ _ _ rfl _ 16 Tryz.underlying45 info_str rfl (by decide) stC_len stC_one ⟨dp.toArray⟩ ⟨w4.heap.size, 0, none⟩ 1 rfl rfl (cells_new _ rfl _ _) q HLQ.out (by omega) (by decide) ?_; intro g5 cp5 w5 M5'; have M5 := Lib.hid M5'; clear M5')
      go_roundw
      case rel =>
        refine ⟨q + 1, by go_num, by omega, ?_⟩
        rw [hnx.out]
        exact M5.out.take 2
      case measure => (simp [RowKit.intOf]) <;> omega
    · obtain rfl : q = n := by omega
      have z2 : ¬ (q : Int) < q := by omega
      have htk : L.take q = L := List.take_of_length_le (by rw [HL.out]; exact Nat.le_refl _)
      rw [htk] at M HLQ
      clear htk
      go_wp2
      go_ret
      refine ⟨A2, q, cap2, rfl, ?_, M.out.held⟩
      rw [HB2.out]
      exact M.out.row 1 rfl
end St
end Go.Proofs.YthpjbffhdaaibaaGreat
