/-
  Contracts: the law StreamTells (printed by wip/tools/mkrso.py; chapter 24).
-/
import Derived.Test.YthpjbffhdaaibaaGreatZ17
import Derived.Test.YthpjbffhdaaibaaGreatZ16
import Derived.Test.YthpjbffhdaaibaaGreatZ13
import Derived.Deep.RegionHeld3
set_option linter.unusedVariables false
set_option linter.unusedSimpArgs false
set_option maxRecDepth 100000
namespace Go.Proofs.YthpjbffhdaaibaaGreat
open Go.RowKit Go.BigFrame Go.Sort Go.Lib
namespace St
open Enc Uv Lg Lgc Strs
theorem push_len (S : Snd) (g : Seg) : (push S g).1.q.length ≤ S.q.length + 1 := by
  unfold push
  split
  · exact Nat.le_succ _
  · split
    · exact Nat.le_succ _
    · split
      · exact Nat.le_succ _
      · simp
theorem acked_len (S : Snd) (s : List UInt8) : (acked S s).1.q.length ≤ S.q.length := by
  unfold acked acked1
  repeat' split
  all_goals first | exact Nat.le_refl _ | (simp only [List.length_drop]; omega)
theorem drain_len : ∀ (l : List Er) (n kn : Nat), (drain n kn l).1.e.length ≤ l.length ∧ (drain n kn l).2.length ≤ l.length
  | [], _, _ => ⟨Nat.le_refl _, Nat.le_refl _⟩
  | x :: l, n, kn => by
    unfold drain
    have ih := drain_len l (n + 1) x.g.kn
    split
    · split
      · simp only [List.length_cons]; omega
      · simp only [List.length_cons, List.length_nil]; omega
    · simp only [List.length_cons, List.length_nil]; omega
theorem ins_len (x : Er) (l : List Er) : (ins x l).length ≤ l.length + 1 := by
  unfold ins
  simp only [List.length_append, List.length_take, List.length_cons, List.length_drop]
  omega
theorem take_len (R : Rcv) (s : List UInt8) : (take R s).1.e.length ≤ R.e.length + 1 ∧ (take R s).2.1.length ≤ R.e.length + 1 := by
  have key : ∀ n u, (take3 R n u).1.e.length ≤ R.e.length + 1 ∧ (take3 R n u).2.1.length ≤ R.e.length + 1 := fun n u => by
    unfold take3
    split
    · simp only [List.length_nil]; omega
    · split
      · simp only [List.length_nil]; omega
      · have h1 := drain_len (ins ⟨n, u.1⟩ R.e) R.n R.kn
        have h2 := ins_len ⟨n, u.1⟩ R.e
        simp only
        omega
  unfold take take1
  split
  · simp only [List.length_nil]; omega
  · exact key _ _
/-- Two senders that hold the same. -/
structure SndEq (B : Nat) (w : World) (A1 : Option Addr) (n1 : Nat) (A2 : Option Addr) (n2 : Nat) : Prop where
  ex : ∃ R1 R2, Sl 3 segC w A1 n1 R1 ∧ Sl 3 segC w A2 n2 R2 ∧ Sgs B w R1 ∧ Sgs B w R2 ∧ gs R1 = gs R2
theorem SndEq.held {B : Nat} {w w' : World} {A1 A2 : Option Addr} {n1 n2 : Nat} (h : SndEq B w A1 n1 A2 n2) (k : Held w w') : SndEq B w' A1 n1 A2 n2 :=
  let ⟨R1, R2, h1, h2, h3, h4, h5⟩ := h.ex
  ⟨R1, R2, h1.held k, h2.held k, h3.held k, h4.held k, h5⟩
theorem SndEq.len {B : Nat} {w : World} {A1 A2 : Option Addr} {n1 n2 : Nat} (h : SndEq B w A1 n1 A2 n2) : n1 = n2 := by
  obtain ⟨R1, R2, h1, h2, _, _, h5⟩ := h.ex
  have := gs_same h5
  have := h1.1
  have := h2.1
  omega
theorem SndEq.call {B : Nat} {w : World} {A1 A2 : Option Addr} {n : Nat} (h : SndEq B w A1 n A2 n) (b t kn c1 c2 : Nat) (hn : n ≤ 1000000) :
    Calls Tryz.prog 30 #[.agg #[.int .u64 b, .int .u64 t, .int .u64 kn, .slice A1 n c1], .agg #[.int .u64 b, .int .u64 t, .int .u64 kn, .slice A2 n c2]] w (TrueTo w) := by
  obtain ⟨R1, R2, h1, h2, h3, h4, h5⟩ := h.ex
  exact sameSnd_any b t kn A1 A2 n c1 c2 R1 R2 B w h1 h2 h3 h4 h5 hn
theorem SndEq.calls {B : Nat} {w : World} {A1 A2 : Option Addr} {n : Nat} (h : SndEq B w A1 n A2 n) (c1 c2 : Nat) (hn : n ≤ 1000000) :
    Calls Tryz.prog 12 #[.slice A1 n c1, .slice A2 n c2] w (TrueTo w) := by
  obtain ⟨R1, R2, h1, h2, h3, h4, h5⟩ := h.ex
  exact sameS_any A1 A2 n c1 c2 R1 R2 B w h1 h2 h3 h4 h5 hn
theorem SndEq.nil (B : Nat) (w : World) : SndEq B w none 0 none 0 := ⟨[], [], Sl.nil _ _, Sl.nil _ _, Sgs.nil _ _, Sgs.nil _ _, rfl⟩
/-- Two receivers that hold the same. -/
structure RcvEq (B : Nat) (w : World) (A1 : Option Addr) (n1 : Nat) (A2 : Option Addr) (n2 : Nat) : Prop where
  ex : ∃ R1 R2, Sl 4 erC w A1 n1 R1 ∧ Sl 4 erC w A2 n2 R2 ∧ Ers B w R1 ∧ Ers B w R2 ∧ ers R1 = ers R2
theorem RcvEq.held {B : Nat} {w w' : World} {A1 A2 : Option Addr} {n1 n2 : Nat} (h : RcvEq B w A1 n1 A2 n2) (k : Held w w') : RcvEq B w' A1 n1 A2 n2 :=
  let ⟨R1, R2, h1, h2, h3, h4, h5⟩ := h.ex
  ⟨R1, R2, h1.held k, h2.held k, h3.held k, h4.held k, h5⟩
theorem RcvEq.len {B : Nat} {w : World} {A1 A2 : Option Addr} {n1 n2 : Nat} (h : RcvEq B w A1 n1 A2 n2) : n1 = n2 := by
  obtain ⟨R1, R2, h1, h2, _, _, h5⟩ := h.ex
  have h6 := congrArg List.length h5
  unfold ers at h6
  rw [List.length_map, List.length_map] at h6
  have := h1.1
  have := h2.1
  omega
theorem RcvEq.call {B : Nat} {w : World} {A1 A2 : Option Addr} {n : Nat} (h : RcvEq B w A1 n A2 n) (b kn c1 c2 : Nat) (hn : n ≤ 1000000) :
    Calls Tryz.prog 31 #[.agg #[.int .u64 b, .int .u64 kn, .slice A1 n c1], .agg #[.int .u64 b, .int .u64 kn, .slice A2 n c2]] w (TrueTo w) := by
  obtain ⟨R1, R2, h1, h2, h3, h4, h5⟩ := h.ex
  exact sameRcv_any b kn A1 A2 n c1 c2 R1 R2 B w h1 h2 h3 h4 h5 hn
theorem RcvEq.nil (B : Nat) (w : World) : RcvEq B w none 0 none 0 := ⟨[], [], Sl.nil _ _, Sl.nil _ _, Ers.nil _ _, Ers.nil _ _, rfl⟩
set_option maxHeartbeats 40000000 in
theorem tells_any (x : SR) (b t kn : Nat) (A : Option Addr) (n cap : Nat) (L : List SR) (rb rk : Nat) (RA : Option Addr) (rn rc : Nat) (RL : List ErR) (s : ByteArray) (at_ : Int) (ws : s.size ≤ maxLen) (wat : (Lit.int .u64 at_).wf = true) (w : World) (hx : SgW w x) (hs : InSnd w b t kn A n cap L) (hr : InRcv w rb rk RA rn rc RL) :
    Calls Tryz.prog 3 #[.agg #[.int .u64 x.f, .int .u64 x.kn, .slice x.A x.n x.cap], .agg #[.int .u64 b, .int .u64 t, .int .u64 kn, .slice A n cap], .agg #[.int .u64 rb, .int .u64 rk, .slice RA rn rc], .string s, .int .u64 at_] w fun e w' => e = .returned (.bool true) ∧ Held w w' := by
  obtain ⟨at_, rfl, hat⟩ := nat_of wat
  obtain ⟨xf, xk, XA, xn, xc, es⟩ := x
  dsimp only
  unfold maxLen at ws
  have hnm : (n : Int) ≤ 9223372036854775807 := by have := hs.cm; have := hs.nc; unfold maxLen at *; omega
  have hrm : (rn : Int) ≤ 9223372036854775807 := by have := hr.cm; have := hr.nc; unfold maxLen at *; omega
  have HAW := Lib.hid awake_any
  have HX := Lib.hid hx
  have HS := Lib.hid hs
  have HR := Lib.hid hr
  have M0 := Lib.hid ((((Mem.start w).alloc' (b := w.heap.size) rfl #[.int .u64 xf, .int .u64 xk, .slice XA xn xc] 25).alloc' (b := w.heap.size + 1) (by simp) #[.int .u64 b, .int .u64 t, .int .u64 kn, .slice A n cap] 28).alloc' (b := w.heap.size + 1 + 1) (by simp) #[.int .u64 rb, .int .u64 rk, .slice RA rn rc] 31)
  have M1 := Lib.hid (M0.out.alloc' (b := w.heap.size + 1 + 1 + 1) (by simp) #[.int .u64 xf, .int .u64 xk, .slice XA xn xc] 25)
  have HL1 := Lib.hid (light_any (some ⟨w.heap.size + 1 + 1 + 1, 0, none⟩) 1 1 [(⟨xf, xk, XA, xn, xc, es⟩ : SR)] _ (one_seg (M1.out.blk 3 rfl)) (fun y hy => by rw [List.mem_singleton] at hy; subst hy; exact hx.held M1.out.held) (by decide))
  have HL2 := Lib.hid fun (w' : World) (k : Held w w') => light_any A n cap L w' (hs.sl.held k) (fun y hy => (hs.sg y hy).held k) hnm
  clear hx hs hr
  unfold LightTo at HL1 HL2
  go_enter Tryz.func3, Tryz.ntmps3
  go_wp2_with fail
  refine HL1.out.mono ?_
  rintro e w1 ⟨l1, rfl, hl1, h1⟩
  have M2 := Lib.hid (M1.out.keep h1)
  clear M1 M0 h1 HL1
  cases l1
  · clear hl1
    go_wp2_with fail
    refine (HAW.out _).mono ?_
    rintro e w2 ⟨rfl, h2⟩
    go_wp2
    go_ret
    exact ⟨rfl, M2.out.held.step h2⟩
  have hxn := (hl1 rfl).2 _ (List.mem_singleton.2 rfl)
  dsimp only at hxn
  clear hl1
  obtain ⟨⟨c0, c1, c2, c3⟩, _, lt⟩ := M2.out.box4 1 rfl
  go_wp2_with fail
  refine (HL2.out _ M2.out.held).mono ?_
  rintro e w2 ⟨l2, rfl, hl2, h2⟩
  have M3 := Lib.hid (M2.out.keep h2)
  clear M2 h2 HL2 c0 c1 c2 c3 lt
  cases l2
  · clear hl2
    go_wp2_with fail
    refine (HAW.out _).mono ?_
    rintro e w3 ⟨rfl, h3⟩
    go_wp2
    go_ret
    exact ⟨rfl, M3.out.held.step h3⟩
  obtain ⟨hn200, hq200⟩ := hl2 rfl
  clear hl2
  obtain ⟨⟨c0, c1, c2⟩, _, lt⟩ := M3.out.box3 2 rfl
  by_cases hr200 : (200 : Int) < rn
  · go_wp2_with fail
    refine (HAW.out _).mono ?_
    rintro e w3 ⟨rfl, h3⟩
    go_wp2
    go_ret
    exact ⟨rfl, M3.out.held.step h3⟩
  have HSE := Lib.hid (segs_any RA rn rc RL w2 (HR.out.sl.held M3.out.held) (by omega))
  unfold SgsTo at HSE
  go_wp2_with fail
  refine HSE.out.mono ?_
  rintro e w3 ⟨A3, n3, c3', rfl, o3, h3⟩
  have M4 := Lib.hid (M3.out.keep h3)
  clear M3 h3 c0 c1 c2 lt HSE
  obtain rfl : rn = n3 := by have e1 := o3.reads segC_len |>.1.1; have e2 := HR.out.sl.1; rw [List.length_map] at e1; omega
  have HL3 := Lib.hid (light_any A3 rn c3' (RL.map ErR.x) w3 (o3.reads segC_len).1 (fun y hy => by obtain ⟨z, hz, rfl⟩ := List.mem_map.1 hy; exact ((HR.out.sg z hz).1.held M4.out.held)) (by omega))
  unfold LightTo at HL3
  clear o3
  go_wp2_with fail
  refine HL3.out.mono ?_
  rintro e w4 ⟨l4, rfl, hl4, h4⟩
  have M5 := Lib.hid (M4.out.keep h4)
  clear M4 h4 HL3
  cases l4
  · clear hl4
    go_wp2_with fail
    refine (HAW.out _).mono ?_
    rintro e w5 ⟨rfl, h5⟩
    go_wp2
    go_ret
    exact ⟨rfl, M5.out.held.step h5⟩
  have her200 : ∀ y ∈ RL, y.x.n ≤ 200 := fun y hy => (hl4 rfl).2 y.x (List.mem_map.2 ⟨y, hy, rfl⟩)
  clear hl4
  by_cases hs2 : (2000 : Int) < s.size
  · go_wp2_with fail
    refine (HAW.out _).mono ?_
    rintro e w5 ⟨rfl, h5⟩
    go_wp2
    go_ret
    exact ⟨rfl, M5.out.held.step h5⟩
  have SX : Hid (Sg w.heap.size w ⟨xf, xk, XA, xn, xc, es⟩) := Lib.hid (HX.out.sg hxn)
  have SL : Hid (Sgs w.heap.size w L) := Lib.hid fun y hy => (HS.out.sg y hy).sg (hq200 y hy)
  have SE : Hid (Ers w.heap.size w RL) := Lib.hid fun y hy => ⟨(HR.out.sg y hy).1.sg (her200 y hy), (HR.out.sg y hy).2⟩
  have hgl : (gs L).length ≤ 200 := by rw [gs_len, HS.out.sl.1]; exact hn200
  have hel : (ers RL).length ≤ 200 := by have := HR.out.sl.1; rw [ers_len]; omega
  have hgl9 := push_len ⟨b, t, kn, gs L⟩ ⟨xf, xk, es⟩
  have hal9 := acked_len ⟨b, t, kn, gs L⟩ s.data.toList
  have htl9 := take_len ⟨rb, rk, ers RL⟩ s.data.toList
  have EN := Lib.hid fun (w' : World) (k : Held w w') => encodeS_any xf xk XA xn xc es w.heap.size w' (SX.out.held k)
  have BO := Lib.hid fun (w' : World) (k : Held w w') => bodyr_any xf xk XA xn xc es w.heap.size w' (SX.out.held k)
  have DE := Lib.hid fun (w' : World) => decodeS_any s (by omega) w'
  have UB := Lib.hid fun (w' : World) => unbodyr_any s (by omega) w'
  have SD := Lib.hid fun (w' : World) (k : Held w w') => sending_any b t kn A n cap L w.heap.size w' (HS.out.sl.held k) (SL.out.held k) (by omega)
  have SQ := Lib.hid fun (w' : World) (k : Held w w') => sendr_any b t kn A n cap L w.heap.size w' (HS.out.sl.held k) (SL.out.held k) (by omega)
  have RD := Lib.hid fun (w' : World) (k : Held w w') => receiving_any rb rk RA rn rc RL w.heap.size w' (HR.out.sl.held k) (SE.out.held k) (by omega)
  have RR := Lib.hid fun (w' : World) (k : Held w w') => receiver_any rb rk RA rn rc RL w.heap.size w' (HR.out.sl.held k) (SE.out.held k) (by omega)
  have YD := Lib.hid fun (w' : World) (k : Held w w') => reply_any rb rk RA rn rc RL w.heap.size w' (HR.out.sl.held k) (SE.out.held k) (by omega) (by have := HR.out.b; omega) (by have := HR.out.kn; omega)
  have YR := Lib.hid fun (w' : World) (k : Held w w') => replyr_any rb rk RA rn rc RL w.heap.size w' (HR.out.sl.held k) (SE.out.held k) (by omega) (by have := HR.out.b; omega) (by have := HR.out.kn; omega)
  have PD := Lib.hid fun (w' : World) (k : Held w w') => packets_any b t kn A n cap L w.heap.size w' (HS.out.sl.held k) (SL.out.held k) (by omega)
  have PR := Lib.hid fun (w' : World) (k : Held w w') => packetsr_any b t kn A n cap L w.heap.size w' (HS.out.sl.held k) (SL.out.held k) (by omega)
  have UD := Lib.hid fun (w' : World) (k : Held w w') => push_any b t kn A n cap L xf xk XA xn xc es w.heap.size w' k.le (HS.out.sl.held k) (SL.out.held k) (by omega) (SX.out.held k)
  have UR := Lib.hid fun (w' : World) (k : Held w w') => pushr_any b t kn A n cap L xf xk XA xn xc es w.heap.size w' (HS.out.sl.held k) (SL.out.held k) (by omega) (SX.out.held k)
  have CD := Lib.hid fun (w' : World) (k : Held w w') => acked_any b t kn A n cap L s w.heap.size w' k.le (HS.out.sl.held k) (SL.out.held k) (by omega) (by omega)
  have CR := Lib.hid fun (w' : World) (k : Held w w') => ackedr_any b t kn A n cap L s w.heap.size w' (HS.out.sl.held k) (SL.out.held k) (by omega) HS.out.nc (by omega)
  have TD := Lib.hid fun (w' : World) (k : Held w w') => take_any rb rk RA rn rc RL s w.heap.size w' k.le (HR.out.sl.held k) (SE.out.held k) (by omega) (by omega)
  have TR := Lib.hid fun (w' : World) (k : Held w w') => taker_any rb rk RA rn rc RL s w.heap.size w' k.le (HR.out.sl.held k) (SE.out.held k) (by omega) HR.out.nc HR.out.cm (by omega)
  have ND := Lib.hid fun (w' : World) => new_any at_ w'
  have NR := Lib.hid fun (w' : World) => start_any at_ w'
  unfold EncTo at EN BO
  unfold UnTo at DE UB
  unfold BoolTo at SD SQ RD RR
  unfold MakesS at YD YR
  unfold StrsTo at PD PR
  unfold SndX at UD CD
  unfold SndR at UR CR
  unfold TakeTo at TD
  unfold RcvR at TR
  unfold NewTo at ND NR
  have hpl : (packets ⟨b, t, kn, gs L⟩).length ≤ 200 := by
    unfold packets
    split
    · rw [packs_len]; exact hgl
    · exact Nat.zero_le _
  obtain ⟨bd, hbd⟩ : ∃ bd : ByteArray, (⟨(body ⟨xf, xk, es⟩).1.toArray⟩ : ByteArray) = bd := ⟨_, rfl⟩
  obtain ⟨be, hbe⟩ : ∃ be, (body ⟨xf, xk, es⟩).2 = be := ⟨_, rfl⟩
  obtain ⟨⟨⟨yf, yk, yes⟩, ye⟩, hy⟩ : ∃ y, unbody s.data.toList = y := ⟨_, rfl⟩
  obtain ⟨sb, hsb⟩ : ∃ sb, sending ⟨b, t, kn, gs L⟩ = sb := ⟨_, rfl⟩
  obtain ⟨rv, hrv⟩ : ∃ rv, receiving ⟨rb, rk, ers RL⟩ = rv := ⟨_, rfl⟩
  obtain ⟨rp, hrp⟩ : ∃ rp : ByteArray, (⟨(reply ⟨rb, rk, ers RL⟩).toArray⟩ : ByteArray) = rp := ⟨_, rfl⟩
  obtain ⟨PL, hPL⟩ : ∃ PL, strs (packets ⟨b, t, kn, gs L⟩) = PL := ⟨_, rfl⟩
  have hpl2 : PL.length ≤ 200 := by rw [← hPL]; unfold strs; rw [List.length_map]; exact hpl
  obtain ⟨⟨⟨ub, ut, uk, uq⟩, ue⟩, hu⟩ : ∃ u, push ⟨b, t, kn, gs L⟩ ⟨xf, xk, es⟩ = u := ⟨_, rfl⟩
  obtain ⟨⟨⟨kb, kt, kk, kq⟩, ke⟩, hk⟩ : ∃ u, acked ⟨b, t, kn, gs L⟩ s.data.toList = u := ⟨_, rfl⟩
  obtain ⟨⟨⟨tb, tk, te⟩, tl, tok⟩, ht⟩ : ∃ u, take ⟨rb, rk, ers RL⟩ s.data.toList = u := ⟨_, rfl⟩
  rw [hbd, hbe] at EN BO
  rw [hy] at DE UB
  rw [hsb] at SD SQ
  rw [hrv] at RD RR
  rw [hrp] at YD YR
  rw [hPL] at PD PR
  rw [hu] at UD UR hgl9
  rw [hk] at CD CR hal9
  rw [ht] at TD TR htl9
  dsimp only at DE UB UD UR CD CR TD TR hgl9 hal9 htl9
  have hu1 : uq.length ≤ 1000 := by omega
  have hk1 : kq.length ≤ 1000 := by omega
  have ht1 : te.length ≤ 1000 := by omega
  have ht2 : tl.length ≤ 1000 := by omega
  have HU1 := Lib.hid hu1
  have HK1 := Lib.hid hk1
  have HT1 := Lib.hid ht1
  have HT2 := Lib.hid ht2
  clear hbd hbe hy hsb hrv hrp hPL hu hk ht hgl9 hal9 htl9 hpl hgl hel hu1 hk1 ht1 ht2 her200 hq200 HX HS HR SX SL SE hxn
  simp only [List.cons_append, List.nil_append] at M5
  obtain ⟨⟨a0, a1, a2⟩, _, al⟩ := M5.out.box3 0 rfl
  go_wp2_with fail
  refine (EN.out _ M5.out.held).mono ?_
  rintro e w6 ⟨rfl, h6⟩
  have M6 := Lib.hid (M5.out.keep h6)
  clear M5 
  clear h6 EN
  clear a0 a1 a2 al
  obtain ⟨⟨a0, a1, a2⟩, _, al⟩ := M6.out.box3 0 rfl
  go_wp2_with fail
  refine (BO.out _ M6.out.held).mono ?_
  rintro e w7 ⟨rfl, h7⟩
  have M7 := Lib.hid (M6.out.keep h7)
  clear M6 
  clear h7 BO
  clear a0 a1 a2 al
  go_wp2_with fail
  refine (DE.out _).mono ?_
  rintro e w8 ⟨A8, n8, c8, rfl, s8, h8⟩
  dsimp only at s8 ⊢
  have S8 := Lib.hid (s8 0)
  clear s8
  have S8a := Lib.hid (S8.out.held ((Held.refl w8).alloc (.cells #[.int .u64 yf, .int .u64 yk, .slice A8 n8 c8] 25)))
  clear S8
  have M8 := Lib.hid ((M7.out.keep h8).alloc' (b := w8.heap.size) rfl #[.int .u64 yf, .int .u64 yk, .slice A8 n8 c8] 25)
  simp only [List.cons_append, List.nil_append] at M8
  clear M7 
  clear h8 DE
  go_wp2_with fail
  refine (UB.out _).mono ?_
  rintro e w9 ⟨A9, n9, c9, rfl, s9, h9⟩
  dsimp only at s9 ⊢
  have S9 := Lib.hid (s9 0)
  clear s9
  have S9a := Lib.hid (S9.out.held ((Held.refl w9).alloc (.cells #[.int .u64 yf, .int .u64 yk, .slice A9 n9 c9] 25)))
  clear S9
  have M9 := Lib.hid ((M8.out.keep h9).alloc' (b := w9.heap.size) rfl #[.int .u64 yf, .int .u64 yk, .slice A9 n9 c9] 25)
  simp only [List.cons_append, List.nil_append] at M9
  have S8a' := Lib.hid (S8a.out.held (h9.alloc (.cells #[.int .u64 yf, .int .u64 yk, .slice A9 n9 c9] 25)))
  clear M8 S8a
  clear h9 UB
  have hn89 : n9 = n8 := by have e1 := S8a'.out.sl.1; have e2 := S9a.out.sl.1; simp only at e1 e2; omega
  have MS := Lib.hid ((M9.out.alloc' (b := w9.heap.size + 1) (by simp) #[.int .u64 yf, .int .u64 yk, .slice A8 n8 c8] 25).alloc' (b := w9.heap.size + 1 + 1) (by simp) #[.int .u64 yf, .int .u64 yk, .slice A9 n9 c9] 25)
  simp only [List.cons_append, List.nil_append] at MS
  have KS := Lib.hid (((Held.refl (w9.alloc (.cells #[.int .u64 yf, .int .u64 yk, .slice A9 n9 c9] 25))).alloc (.cells #[.int .u64 yf, .int .u64 yk, .slice A8 n8 c8] 25)).alloc (.cells #[.int .u64 yf, .int .u64 yk, .slice A9 n9 c9] 25))
  have CS := Lib.hid (sameS_any (some ⟨w9.heap.size + 1, 0, none⟩) (some ⟨w9.heap.size + 1 + 1, 0, none⟩) 1 1 1 [(⟨yf, yk, A8, n8, c8, yes⟩ : SR)] [(⟨yf, yk, A9, n9, c9, yes⟩ : SR)] 0 _ (one_seg (MS.out.blk 6 rfl)) (one_seg (MS.out.blk 7 rfl)) (fun z hz => by rw [List.mem_singleton] at hz; subst hz; exact S8a'.out.held KS.out) (fun z hz => by rw [List.mem_singleton] at hz; subst hz; exact S9a.out.held KS.out) rfl (by decide))
  clear S8a' S9a KS hn89
  obtain ⟨⟨a0, a1, a2⟩, _, al⟩ := M9.out.box3 4 rfl
  obtain ⟨⟨d0, d1, d2⟩, _, dl⟩ := M9.out.box3 5 rfl
  clear M9
  go_wp2_with fail
  refine CS.out.mono ?_
  rintro e w10 ⟨rfl, h10⟩
  clear a0 a1 a2 al
  clear d0 d1 d2 dl
  have M10 := Lib.hid (MS.out.keep h10)
  clear MS 
  clear h10 CS
  obtain ⟨⟨a0, a1, a2, a3⟩, _, al⟩ := M10.out.box4 1 rfl
  obtain ⟨⟨d0, d1, d2⟩, _, dl⟩ := M10.out.box3 2 rfl
  have HC := Lib.hid fun (w' : World) (k' : Held w10 w') => And.intro (k'.cell a0) (And.intro (k'.cell a1) (And.intro (k'.cell a2) (And.intro (k'.cell a3) (And.intro (k'.cell d0) (And.intro (k'.cell d1) (k'.cell d2))))))
  have SD9 := Lib.hid fun (w' : World) (k' : Held w10 w') => SD.out w' (M10.out.held.step k')
  have SQ9 := Lib.hid fun (w' : World) (k' : Held w10 w') => SQ.out w' (M10.out.held.step k')
  have RD9 := Lib.hid fun (w' : World) (k' : Held w10 w') => RD.out w' (M10.out.held.step k')
  have RR9 := Lib.hid fun (w' : World) (k' : Held w10 w') => RR.out w' (M10.out.held.step k')
  have YD9 := Lib.hid fun (w' : World) (k' : Held w10 w') => YD.out w' (M10.out.held.step k')
  have YR9 := Lib.hid fun (w' : World) (k' : Held w10 w') => YR.out w' (M10.out.held.step k')
  have PD9 := Lib.hid fun (w' : World) (k' : Held w10 w') => PD.out w' (M10.out.held.step k')
  have PR9 := Lib.hid fun (w' : World) (k' : Held w10 w') => PR.out w' (M10.out.held.step k')
  clear SD SQ RD RR YD YR PD PR
  obtain ⟨pl, hpl⟩ : ∃ pl, PL.length = pl := ⟨_, rfl⟩
  have HPN : Is PL.length pl := ⟨hpl⟩
  rw [hpl] at hpl2
  clear hpl
  go_wp2
  go_cut [133] (fun v133 wx => v133 = .bool false ∧ Held w10 wx)
  case first =>
    go_region_held3 (fun w' => w'.cell? ⟨w.heap.size + 1, 0, none⟩ = some (.int .u64 b) ∧ w'.cell? ⟨w.heap.size + 1, 1, none⟩ = some (.int .u64 t) ∧ w'.cell? ⟨w.heap.size + 1, 2, none⟩ = some (.int .u64 kn) ∧ w'.cell? ⟨w.heap.size + 1, 3, none⟩ = some (.slice A n cap) ∧ w'.cell? ⟨w.heap.size + 1 + 1, 0, none⟩ = some (.int .u64 rb) ∧ w'.cell? ⟨w.heap.size + 1 + 1, 1, none⟩ = some (.int .u64 rk) ∧ w'.cell? ⟨w.heap.size + 1 + 1, 2, none⟩ = some (.slice RA rn rc))
      (first | exact HC.out _ (by assumption) | exact HC.out _ (by repeat (first | exact Held.refl _ | assumption | refine Held.drew ?_ | refine Held.alloc ?_ _)))
      (first
      | (go_at_call 13; refine Calls.mono (by with_reducible exact SD9.out _ (by repeat (first | exact Held.refl _ | assumption | refine Held.drew ?_ | refine Held.alloc ?_ _))) ?_; rintro e w13 ⟨rfl, hh⟩; have g13 : Held w10 w13 := Held.step (by repeat (first | exact Held.refl _ | assumption | refine Held.drew ?_ | refine Held.alloc ?_ _)) hh; clear hh)
      | (go_at_call 14; refine Calls.mono (by with_reducible exact SQ9.out _ (by repeat (first | exact Held.refl _ | assumption | refine Held.drew ?_ | refine Held.alloc ?_ _))) ?_; rintro e w14 ⟨rfl, hh⟩; have g14 : Held w10 w14 := Held.step (by repeat (first | exact Held.refl _ | assumption | refine Held.drew ?_ | refine Held.alloc ?_ _)) hh; clear hh)
      | (go_at_call 15; refine Calls.mono (by with_reducible exact RD9.out _ (by repeat (first | exact Held.refl _ | assumption | refine Held.drew ?_ | refine Held.alloc ?_ _))) ?_; rintro e w15 ⟨rfl, hh⟩; have g15 : Held w10 w15 := Held.step (by repeat (first | exact Held.refl _ | assumption | refine Held.drew ?_ | refine Held.alloc ?_ _)) hh; clear hh)
      | (go_at_call 16; refine Calls.mono (by with_reducible exact RR9.out _ (by repeat (first | exact Held.refl _ | assumption | refine Held.drew ?_ | refine Held.alloc ?_ _))) ?_; rintro e w16 ⟨rfl, hh⟩; have g16 : Held w10 w16 := Held.step (by repeat (first | exact Held.refl _ | assumption | refine Held.drew ?_ | refine Held.alloc ?_ _)) hh; clear hh)
      | (go_at_call 17; refine Calls.mono (by with_reducible exact YD9.out _ (by repeat (first | exact Held.refl _ | assumption | refine Held.drew ?_ | refine Held.alloc ?_ _))) ?_; rintro e w17 ⟨rfl, hh⟩; have g17 : Held w10 w17 := Held.step (by repeat (first | exact Held.refl _ | assumption | refine Held.drew ?_ | refine Held.alloc ?_ _)) hh; clear hh)
      | (go_at_call 18; refine Calls.mono (by with_reducible exact YR9.out _ (by repeat (first | exact Held.refl _ | assumption | refine Held.drew ?_ | refine Held.alloc ?_ _))) ?_; rintro e w18 ⟨rfl, hh⟩; have g18 : Held w10 w18 := Held.step (by repeat (first | exact Held.refl _ | assumption | refine Held.drew ?_ | refine Held.alloc ?_ _)) hh; clear hh)
      | (go_at_call 20; refine Calls.mono (by with_reducible exact PD9.out _ (by repeat (first | exact Held.refl _ | assumption | refine Held.drew ?_ | refine Held.alloc ?_ _))) ?_; rintro e w20 ⟨A20, n20, c20, rfl, o20, hh⟩; have g20 : Held w10 w20 := Held.step (by repeat (first | exact Held.refl _ | assumption | refine Held.drew ?_ | refine Held.alloc ?_ _)) hh; have h20 := hh; have s20 := (o20.reads stC_len).1; have e20 := s20.1; rw [HPN.out] at e20; subst e20; clear o20; clear hh)
      | (go_at_call 21; refine Calls.mono (by with_reducible exact PR9.out _ (by repeat (first | exact Held.refl _ | assumption | refine Held.drew ?_ | refine Held.alloc ?_ _))) ?_; rintro e w21 ⟨A21, n21, c21, rfl, o21, hh⟩; have g21 : Held w10 w21 := Held.step (by repeat (first | exact Held.refl _ | assumption | refine Held.drew ?_ | refine Held.alloc ?_ _)) hh; have h21 := hh; have s21 := (o21.reads stC_len).1; have e21 := s21.1; rw [HPN.out] at e21; subst e21; clear o21; clear hh)
      | (go_at_call 19; refine Calls.mono (sameStr_any _ _ _ _ _ PL _ (s20.held (by repeat (first | exact Held.refl _ | assumption | refine Held.drew ?_ | exact Held.step ((Held.refl _).drew) (by assumption)))) (s21.held (by repeat (first | exact Held.refl _ | assumption | refine Held.drew ?_ | exact Held.step ((Held.refl _).drew) (by assumption)))) (by omega)) ?_; rintro e w19 ⟨rfl, hh⟩; have g19 : Held w10 w19 := Held.step (by repeat (first | exact Held.refl _ | assumption | refine Held.drew ?_ | refine Held.alloc ?_ _)) hh; clear hh))
    all_goals
      go_wp2
      go_meet
      case rel => exact ⟨rfl, g19⟩
  case rest =>
    obtain ⟨rfl, h11⟩ := hcut
    clear a0 a1 a2 a3 al d0 d1 d2 dl HC SD9 SQ9 RD9 RR9 YD9 YR9 PD9 PR9
    have M11 := Lib.hid (M10.out.keep h11)
    clear M10 
    clear h11
    obtain ⟨⟨a0, a1, a2, a3⟩, _, al⟩ := M11.out.box4 1 rfl
    obtain ⟨⟨d0, d1, d2⟩, _, dl⟩ := M11.out.box3 0 rfl
    go_wp2_with fail
    refine (UD.out _ M11.out.held).mono ?_
    rintro e w12 ⟨A12, n12, c12, rfl, o12, h12⟩
    dsimp only at o12 ⊢
    obtain ⟨R12, q12, p12, s12⟩ := o12
    have X12 := Lib.hid (And.intro (p12.reads segC_len).1 s12)
    have Q12 := Lib.hid q12
    clear p12 s12 q12
    have M12 := Lib.hid ((M11.out.keep h12).alloc' (b := w12.heap.size) rfl #[.int .u64 ub, .int .u64 ut, .int .u64 uk, .slice A12 n12 c12] 28)
    simp only [List.cons_append, List.nil_append] at M12
    clear M11 
    clear UD
    clear a0 a1 a2 a3 al
    clear d0 d1 d2 dl
    obtain ⟨⟨a0, a1, a2, a3⟩, _, al⟩ := M12.out.box4 1 rfl
    obtain ⟨⟨d0, d1, d2⟩, _, dl⟩ := M12.out.box3 0 rfl
    have X12a := Lib.hid (And.intro (X12.out.1.held ((Held.refl w12).alloc (.cells #[.int .u64 ub, .int .u64 ut, .int .u64 uk, .slice A12 n12 c12] 28))) (X12.out.2.held ((Held.refl w12).alloc (.cells #[.int .u64 ub, .int .u64 ut, .int .u64 uk, .slice A12 n12 c12] 28))))
    clear X12 h12
    go_wp2_with fail
    refine (UR.out _ M12.out.held).mono ?_
    rintro e w13 ⟨A13, n13, c13, R13, rfl, q13, p13, s13, h13⟩
    dsimp only at q13 p13 s13 ⊢
    have E1 : Hid (SndEq w.heap.size (w13.alloc (.cells #[.int .u64 ub, .int .u64 ut, .int .u64 uk, .slice A13 n13 c13] 28)) A12 n12 A13 n13) := Lib.hid (SndEq.held ⟨R12, R13, X12a.out.1.held h13, p13, X12a.out.2.held h13, s13, Q12.out.trans q13.symm⟩ ((Held.refl w13).alloc _))
    have hq12 : n12 ≤ 1000000 := by have e1 := X12a.out.1.1; have e2 := congrArg List.length Q12.out; rw [gs_len] at e2; have e3 := HU1.out; omega
    clear X12a Q12 p13 s13 q13
    have M13 := Lib.hid ((M12.out.keep h13).alloc' (b := w13.heap.size) rfl #[.int .u64 ub, .int .u64 ut, .int .u64 uk, .slice A13 n13 c13] 28)
    simp only [List.cons_append, List.nil_append] at M13
    clear M12 
    clear h13 UR
    clear a0 a1 a2 a3 al
    clear d0 d1 d2 dl
    obtain ⟨⟨a0, a1, a2, a3⟩, _, al⟩ := M13.out.box4 1 rfl
    obtain rfl := E1.out.len
    go_wp2_with fail
    refine (CD.out _ M13.out.held).mono ?_
    rintro e w14 ⟨A14, n14, c14, rfl, o14, h14⟩
    dsimp only at o14 ⊢
    obtain ⟨R14, q14, p14, s14⟩ := o14
    have X14 := Lib.hid (And.intro (p14.reads segC_len).1 s14)
    have Q14 := Lib.hid q14
    clear p14 s14 q14
    have M14 := Lib.hid ((M13.out.keep h14).alloc' (b := w14.heap.size) rfl #[.int .u64 kb, .int .u64 kt, .int .u64 kk, .slice A14 n14 c14] 28)
    simp only [List.cons_append, List.nil_append] at M14
    have E1' := Lib.hid (E1.out.held (h14.alloc (.cells #[.int .u64 kb, .int .u64 kt, .int .u64 kk, .slice A14 n14 c14] 28)))
    clear M13 E1
    clear CD
    clear a0 a1 a2 a3 al
    obtain ⟨⟨a0, a1, a2, a3⟩, _, al⟩ := M14.out.box4 1 rfl
    have X14a := Lib.hid (And.intro (X14.out.1.held ((Held.refl w14).alloc (.cells #[.int .u64 kb, .int .u64 kt, .int .u64 kk, .slice A14 n14 c14] 28))) (X14.out.2.held ((Held.refl w14).alloc (.cells #[.int .u64 kb, .int .u64 kt, .int .u64 kk, .slice A14 n14 c14] 28))))
    clear X14 h14
    go_wp2_with fail
    refine (CR.out _ M14.out.held).mono ?_
    rintro e w15 ⟨A15, n15, c15, R15, rfl, q15, p15, s15, h15⟩
    dsimp only at q15 p15 s15 ⊢
    have E2 : Hid (SndEq w.heap.size (w15.alloc (.cells #[.int .u64 kb, .int .u64 kt, .int .u64 kk, .slice A15 n15 c15] 28)) A14 n14 A15 n15) := Lib.hid (SndEq.held ⟨R14, R15, X14a.out.1.held h15, p15, X14a.out.2.held h15, s15, Q14.out.trans q15.symm⟩ ((Held.refl w15).alloc _))
    have hq14 : n14 ≤ 1000000 := by have e1 := X14a.out.1.1; have e2 := congrArg List.length Q14.out; rw [gs_len] at e2; have e3 := HK1.out; omega
    clear X14a Q14 p15 s15 q15
    have M15 := Lib.hid ((M14.out.keep h15).alloc' (b := w15.heap.size) rfl #[.int .u64 kb, .int .u64 kt, .int .u64 kk, .slice A15 n15 c15] 28)
    simp only [List.cons_append, List.nil_append] at M15
    have E1'' := Lib.hid (E1'.out.held (h15.alloc (.cells #[.int .u64 kb, .int .u64 kt, .int .u64 kk, .slice A15 n15 c15] 28)))
    clear M14 E1'
    clear h15 CR
    clear a0 a1 a2 a3 al
    obtain ⟨⟨d0, d1, d2⟩, _, dl⟩ := M15.out.box3 2 rfl
    obtain rfl := E2.out.len
    go_wp2_with fail
    refine (TD.out _ M15.out.held).mono ?_
    rintro e w16 ⟨A16, n16, c16, D16, m16, e16, RE16, RD16, rfl, q16, y16, m16', i16, j16⟩
    dsimp only at q16 y16 ⊢
    have h16 := m16'.held
    have X16 := Lib.hid (And.intro ((m16'.row 0 rfl).reads erC_len).1 i16)
    have Z16 := Lib.hid (And.intro ((m16'.row 1 rfl).reads segC_len).1 j16)
    have Q16 := Lib.hid q16
    have Y16 := Lib.hid y16
    clear m16' i16 j16 q16 y16
    have M16 := Lib.hid ((M15.out.keep h16).alloc' (b := w16.heap.size) rfl #[.int .u64 tb, .int .u64 tk, .slice A16 n16 c16] 31)
    simp only [List.cons_append, List.nil_append] at M16
    have E1''' := Lib.hid (E1''.out.held (h16.alloc (.cells #[.int .u64 tb, .int .u64 tk, .slice A16 n16 c16] 31)))
    have E2' := Lib.hid (E2.out.held (h16.alloc (.cells #[.int .u64 tb, .int .u64 tk, .slice A16 n16 c16] 31)))
    clear M15 E1'' E2
    clear TD
    clear d0 d1 d2 dl
    obtain ⟨⟨d0, d1, d2⟩, _, dl⟩ := M16.out.box3 2 rfl
    have X16a := Lib.hid (And.intro (X16.out.1.held ((Held.refl w16).alloc (.cells #[.int .u64 tb, .int .u64 tk, .slice A16 n16 c16] 31))) (X16.out.2.held ((Held.refl w16).alloc (.cells #[.int .u64 tb, .int .u64 tk, .slice A16 n16 c16] 31))))
    have Z16a := Lib.hid (And.intro (Z16.out.1.held ((Held.refl w16).alloc (.cells #[.int .u64 tb, .int .u64 tk, .slice A16 n16 c16] 31))) (Z16.out.2.held ((Held.refl w16).alloc (.cells #[.int .u64 tb, .int .u64 tk, .slice A16 n16 c16] 31))))
    clear X16 Z16 h16
    go_wp2_with fail
    refine (TR.out _ M16.out.held).mono ?_
    rintro e w17 ⟨A17, n17, c17, D17, m17, e17, RE17, RD17, rfl, q17, y17, p17, s17, _, _, t17, u17, h17⟩
    dsimp only at q17 y17 p17 s17 t17 u17 ⊢
    have E3 : Hid (RcvEq w.heap.size (w17.alloc (.cells #[.int .u64 tb, .int .u64 tk, .slice A17 n17 c17] 31)) A16 n16 A17 n17) := Lib.hid (RcvEq.held ⟨RE16, RE17, X16a.out.1.held h17, p17, X16a.out.2.held h17, s17, Q16.out.trans q17.symm⟩ ((Held.refl w17).alloc _))
    have E4 : Hid (SndEq w.heap.size (w17.alloc (.cells #[.int .u64 tb, .int .u64 tk, .slice A17 n17 c17] 31)) D16 m16 D17 m17) := Lib.hid (SndEq.held ⟨RD16, RD17, Z16a.out.1.held h17, t17, Z16a.out.2.held h17, u17, Y16.out.trans y17.symm⟩ ((Held.refl w17).alloc _))
    have hq16 : n16 ≤ 1000000 := by have e1 := X16a.out.1.1; have e2 := congrArg List.length Q16.out; rw [ers_len] at e2; have e3 := HT1.out; omega
    have hy16 : m16 ≤ 1000000 := by have e1 := Z16a.out.1.1; have e2 := congrArg List.length Y16.out; rw [gs_len] at e2; have e3 := HT2.out; omega
    clear X16a Z16a Q16 Y16 p17 s17 q17 t17 u17 y17
    have M17 := Lib.hid ((M16.out.keep h17).alloc' (b := w17.heap.size) rfl #[.int .u64 tb, .int .u64 tk, .slice A17 n17 c17] 31)
    simp only [List.cons_append, List.nil_append] at M17
    have E1'''' := Lib.hid (E1'''.out.held (h17.alloc (.cells #[.int .u64 tb, .int .u64 tk, .slice A17 n17 c17] 31)))
    have E2'' := Lib.hid (E2'.out.held (h17.alloc (.cells #[.int .u64 tb, .int .u64 tk, .slice A17 n17 c17] 31)))
    clear M16 E1''' E2'
    clear h17 TR
    clear d0 d1 d2 dl
    obtain rfl := E3.out.len
    obtain rfl := E4.out.len
    go_wp2_with fail
    refine (ND.out _).mono ?_
    rintro e w18 ⟨rfl, h18⟩
    have M18 := Lib.hid (((M17.out.keep h18).alloc' (b := w18.heap.size) rfl #[.int .u64 1, .int .u64 at_, .int .u64 at_, .slice none 0 0] 28).alloc' (b := w18.heap.size + 1) (by simp) #[.int .u64 1, .int .u64 at_, .slice none 0 0] 31)
    simp only [List.cons_append, List.nil_append] at M18
    have E1''''' := Lib.hid (E1''''.out.held ((h18.alloc (.cells #[.int .u64 1, .int .u64 at_, .int .u64 at_, .slice none 0 0] 28)).alloc (.cells #[.int .u64 1, .int .u64 at_, .slice none 0 0] 31)))
    have E2''' := Lib.hid (E2''.out.held ((h18.alloc (.cells #[.int .u64 1, .int .u64 at_, .int .u64 at_, .slice none 0 0] 28)).alloc (.cells #[.int .u64 1, .int .u64 at_, .slice none 0 0] 31)))
    have E3' := Lib.hid (E3.out.held ((h18.alloc (.cells #[.int .u64 1, .int .u64 at_, .int .u64 at_, .slice none 0 0] 28)).alloc (.cells #[.int .u64 1, .int .u64 at_, .slice none 0 0] 31)))
    have E4' := Lib.hid (E4.out.held ((h18.alloc (.cells #[.int .u64 1, .int .u64 at_, .int .u64 at_, .slice none 0 0] 28)).alloc (.cells #[.int .u64 1, .int .u64 at_, .slice none 0 0] 31)))
    clear M17 E1'''' E2'' E3 E4
    clear h18 ND
    go_wp2_with fail
    refine (NR.out _).mono ?_
    rintro e w19 ⟨rfl, h19⟩
    have M19 := Lib.hid (((M18.out.keep h19).alloc' (b := w19.heap.size) rfl #[.int .u64 1, .int .u64 at_, .int .u64 at_, .slice none 0 0] 28).alloc' (b := w19.heap.size + 1) (by simp) #[.int .u64 1, .int .u64 at_, .slice none 0 0] 31)
    simp only [List.cons_append, List.nil_append] at M19
    have E1'''''' := Lib.hid (E1'''''.out.held ((h19.alloc (.cells #[.int .u64 1, .int .u64 at_, .int .u64 at_, .slice none 0 0] 28)).alloc (.cells #[.int .u64 1, .int .u64 at_, .slice none 0 0] 31)))
    have E2'''' := Lib.hid (E2'''.out.held ((h19.alloc (.cells #[.int .u64 1, .int .u64 at_, .int .u64 at_, .slice none 0 0] 28)).alloc (.cells #[.int .u64 1, .int .u64 at_, .slice none 0 0] 31)))
    have E3'' := Lib.hid (E3'.out.held ((h19.alloc (.cells #[.int .u64 1, .int .u64 at_, .int .u64 at_, .slice none 0 0] 28)).alloc (.cells #[.int .u64 1, .int .u64 at_, .slice none 0 0] 31)))
    have E4'' := Lib.hid (E4'.out.held ((h19.alloc (.cells #[.int .u64 1, .int .u64 at_, .int .u64 at_, .slice none 0 0] 28)).alloc (.cells #[.int .u64 1, .int .u64 at_, .slice none 0 0] 31)))
    clear M18 E1''''' E2''' E3' E4'
    clear h19 NR
    obtain ⟨⟨a0, a1, a2, a3⟩, _, al⟩ := M19.out.box4 8 rfl
    obtain ⟨⟨d0, d1, d2, d3⟩, _, dl⟩ := M19.out.box4 9 rfl
    go_wp2_with fail
    refine (E1''''''.out.call ub ut uk _ _ hq12).mono ?_
    rintro e w20 ⟨rfl, h20⟩
    have M20 := Lib.hid (M19.out.keep h20)
    have E1''''''' := Lib.hid (E1''''''.out.held h20)
    have E2''''' := Lib.hid (E2''''.out.held h20)
    have E3''' := Lib.hid (E3''.out.held h20)
    have E4''' := Lib.hid (E4''.out.held h20)
    clear M19 E1'''''' E2'''' E3'' E4''
    clear h20
    clear a0 a1 a2 a3 al
    clear d0 d1 d2 d3 dl
    obtain ⟨⟨a0, a1, a2, a3⟩, _, al⟩ := M20.out.box4 10 rfl
    obtain ⟨⟨d0, d1, d2, d3⟩, _, dl⟩ := M20.out.box4 11 rfl
    go_wp2_with fail
    refine (E2'''''.out.call kb kt kk _ _ hq14).mono ?_
    rintro e w21 ⟨rfl, h21⟩
    have M21 := Lib.hid (M20.out.keep h21)
    have E1'''''''' := Lib.hid (E1'''''''.out.held h21)
    have E2'''''' := Lib.hid (E2'''''.out.held h21)
    have E3'''' := Lib.hid (E3'''.out.held h21)
    have E4'''' := Lib.hid (E4'''.out.held h21)
    clear M20 E1''''''' E2''''' E3''' E4'''
    clear h21
    clear a0 a1 a2 a3 al
    clear d0 d1 d2 d3 dl
    obtain ⟨⟨a0, a1, a2⟩, _, al⟩ := M21.out.box3 12 rfl
    obtain ⟨⟨d0, d1, d2⟩, _, dl⟩ := M21.out.box3 13 rfl
    go_wp2_with fail
    refine (E3''''.out.call tb tk _ _ hq16).mono ?_
    rintro e w22 ⟨rfl, h22⟩
    have M22 := Lib.hid (M21.out.keep h22)
    have E1''''''''' := Lib.hid (E1''''''''.out.held h22)
    have E2''''''' := Lib.hid (E2''''''.out.held h22)
    have E3''''' := Lib.hid (E3''''.out.held h22)
    have E4''''' := Lib.hid (E4''''.out.held h22)
    clear M21 E1'''''''' E2'''''' E3'''' E4''''
    clear h22
    clear a0 a1 a2 al
    clear d0 d1 d2 dl
    go_wp2_with fail
    refine (E4'''''.out.calls _ _ hy16).mono ?_
    rintro e w23 ⟨rfl, h23⟩
    have M23 := Lib.hid (M22.out.keep h23)
    have E1'''''''''' := Lib.hid (E1'''''''''.out.held h23)
    have E2'''''''' := Lib.hid (E2'''''''.out.held h23)
    have E3'''''' := Lib.hid (E3'''''.out.held h23)
    have E4'''''' := Lib.hid (E4'''''.out.held h23)
    clear M22 E1''''''''' E2''''''' E3''''' E4'''''
    clear h23
    obtain ⟨⟨a0, a1, a2, a3⟩, _, al⟩ := M23.out.box4 14 rfl
    obtain ⟨⟨d0, d1, d2, d3⟩, _, dl⟩ := M23.out.box4 16 rfl
    go_wp2_with fail
    refine ((SndEq.nil 0 _).call 1 at_ at_ 0 0 (by decide)).mono ?_
    rintro e w24 ⟨rfl, h24⟩
    have M24 := Lib.hid (M23.out.keep h24)
    have E1''''''''''' := Lib.hid (E1''''''''''.out.held h24)
    have E2''''''''' := Lib.hid (E2''''''''.out.held h24)
    have E3''''''' := Lib.hid (E3''''''.out.held h24)
    have E4''''''' := Lib.hid (E4''''''.out.held h24)
    clear M23 E1'''''''''' E2'''''''' E3'''''' E4''''''
    clear h24
    clear a0 a1 a2 a3 al
    clear d0 d1 d2 d3 dl
    obtain ⟨⟨a0, a1, a2⟩, _, al⟩ := M24.out.box3 15 rfl
    obtain ⟨⟨d0, d1, d2⟩, _, dl⟩ := M24.out.box3 17 rfl
    go_wp2_with fail
    refine ((RcvEq.nil 0 _).call 1 at_ 0 0 (by decide)).mono ?_
    rintro e w25 ⟨rfl, h25⟩
    have M25 := Lib.hid (M24.out.keep h25)
    have E1'''''''''''' := Lib.hid (E1'''''''''''.out.held h25)
    have E2'''''''''' := Lib.hid (E2'''''''''.out.held h25)
    have E3'''''''' := Lib.hid (E3'''''''.out.held h25)
    have E4'''''''' := Lib.hid (E4'''''''.out.held h25)
    clear M24 E1''''''''''' E2''''''''' E3''''''' E4'''''''
    clear h25
    clear a0 a1 a2 al
    clear d0 d1 d2 dl
    go_wp2_with fail
    refine (HAW.out _).mono ?_
    rintro e w26 ⟨rfl, h26⟩
    go_wp2
    go_ret
    exact ⟨rfl, M25.out.held.step h26⟩
end St
end Go.Proofs.YthpjbffhdaaibaaGreat
