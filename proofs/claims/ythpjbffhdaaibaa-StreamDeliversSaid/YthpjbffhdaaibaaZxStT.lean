/-
  Chapter 24: StreamBodies: the walk.
-/
import Derived.Test.YthpjbffhdaaibaaZ13
set_option linter.unusedVariables false
set_option linter.unusedSimpArgs false
set_option maxRecDepth 100000
namespace Go.Proofs.Ythpjbffhdaaibaa
open Go.RowKit Go.BigFrame Go.Sort Go.Lib
namespace St
open Enc Uv Lg Lgc Strs
theorem sl_one {w : World} {b : Nat} {x : SR} (h : w.heap[b]? = some (.cells #[.int .u64 x.f, .int .u64 x.kn, .slice x.A x.n x.cap] 32 (0, 0))) : Sl 3 segC w (some ⟨b, 0, none⟩) 1 [x] := by
  refine ⟨rfl, .inr ⟨b, 0, rfl, Bx.lt h, fun k hk j v hv => ?_⟩⟩
  obtain rfl : k = 0 := by simpa using hk
  have h2 : (#[Value.int .u64 x.f, Value.int .u64 x.kn, .slice x.A x.n x.cap] : Array Value)[j]? = some v := by
    have : (segC x)[j]? = some v := hv
    simpa [segC] using this
  have := Bx.cell h j h2
  simpa using this
theorem sl_mid {w : World} {b off n : Nat} {L : List SR} (h : Sl 3 segC w (some ⟨b, off, none⟩) n L) {k : Nat} {x : SR} (hx : L[k]? = some x) : Sl 3 segC w (some ⟨b, off + k * 3, none⟩) 1 [x] := by
  obtain ⟨hk, rfl⟩ := List.getElem?_eq_some_iff.1 hx
  have hkn : k < n := by rw [← h.1]; exact hk
  have h1 := (h.drop (k := k) (by omega)).take (k := 1) (by omega)
  rw [List.drop_eq_getElem_cons hk, List.take_succ_cons, List.take_zero] at h1
  exact h1
theorem seg_ok {g : Seg} (h : segOk g = true) : ∃ s, logOf g = (s, 0) := ⟨(logOf g).1, by rw [← (of_decide_eq_true h : (logOf g).2 = 0)]⟩
theorem body_ok {g : Seg} (h : segOk g = true) (hi : SegIn g) : ∃ b, body g = (b, 0) ∧ unbody b = (g, 0) := by
  obtain ⟨s, hs⟩ := seg_ok h
  obtain ⟨h1, h2⟩ := unbody_body (b := []) hi hs
  exact ⟨_, h1, h2⟩
set_option maxHeartbeats 1000000 in
theorem bodies (o0 : Option Addr) (len0 cap0 : Nat) (z0 : List Int) (a1 : Int) (s2 : ByteArray) (w1 : (Lit.int .u64 a1).wf = true) (w2 : s2.size ≤ maxLen) (W : World) (w0 : Rw.IsRow .i64 W o0 len0 cap0 z0) :
    Calls Try.prog 3 #[.slice o0 len0 cap0, .int .u64 a1, .string s2] W fun e w' => e = .returned (.bool true) ∧ Below W.heap.size W w' := by
  have hat := Rw.bd_u64 w1
  obtain ⟨at_, rfl⟩ := Int.eq_ofNat_of_zero_le hat.1
  obtain ⟨L, hL, hmx, hLb⟩ := nums_in w0
  have hs2 : (s2.size : Int) ≤ 9223372036854775807 := by unfold maxLen at w2; omega
  have HAW := Lib.hid awake_any
  clear w0 w1 w2
  by_cases t1 : (20 : Int) < len0
  · clear hL hLb
    go_enter Try.func3, Try.ntmps3
    go_wp2_with (go_at_call 8; refine (HAW.out _).mono ?_; rintro e w1 ⟨rfl, h1⟩)
    go_ret
    exact ⟨rfl, h1⟩
  have t1d : decide ((20 : Int) < len0) = false := decide_eq_false t1
  by_cases t2 : (1099511627776 : Int) < at_
  · clear hL hLb
    go_enter Try.func3, Try.ntmps3
    go_wp2_with (go_at_call 8; refine (HAW.out _).mono ?_; rintro e w1 ⟨rfl, h1⟩)
    go_ret
    exact ⟨rfl, h1⟩
  have t2d : decide ((1099511627776 : Int) < at_) = false := decide_eq_false t2
  by_cases t3 : (2000 : Int) < s2.size
  · clear hL hLb
    go_enter Try.func3, Try.ntmps3
    go_wp2_with (go_at_call 8; refine (HAW.out _).mono ?_; rintro e w1 ⟨rfl, h1⟩)
    go_ret
    exact ⟨rfl, h1⟩
  have t3d : decide ((2000 : Int) < s2.size) = false := decide_eq_false t3
  have HSG := Lib.hid (segments_any o0 len0 cap0 L at_ 0 W (Nat.zero_le _) hL hLb (by omega) (by omega))
  clear hL hLb
  go_enter Try.func3, Try.ntmps3
  go_wp2_with fail
  refine HSG.out.mono ?_
  rintro e w1 ⟨A, cap, R, rfl, hRl, hch, oR, sR, h1⟩
  have M1 := Lib.hid ((Mem.start W).own h1 oR)
  have HS1 := Lib.hid (Own.reads segC_len oR).1
  have S1 := Lib.hid sR
  have HCH := Lib.hid hch
  have HRL : Is R.length len0 := ⟨hRl⟩
  clear hRl hch oR sR h1 HSG
  go_wp2
  go_loopw [8] (fun i wr => ∃ q : Nat, i = .int .i64 (q : Int) ∧ q ≤ len0 ∧ Held w1 wr) (fun i _ => len0 - (RowKit.intOf i).toNat)
  case atStart => exact ⟨0, rfl, Nat.zero_le _, Held.refl _⟩
  case round =>
    obtain ⟨q, rfl, hq, hh⟩ := hrel
    have HH := Lib.hid hh
    by_cases hlt : q < len0
    · obtain ⟨b, off, f, kn, XA, xn, xc, es, rfl, hb, hx, x0, x1, x2⟩ := segAt HS1.out hh (k := q) hlt
      have z2 : (q : Int) < len0 := by omega
      have z3 : (0 : Int) ≤ q := by omega
      have z4 : (q : Int) + 1 ≤ len0 := by omega
      have hgl : q < (gs R).length := by rw [gs_len, HRL.out]; exact hlt
      have hge : (gs R)[q] = ⟨f, kn, es⟩ := by
        have := gs_at hx
        rw [List.getElem?_eq_getElem hgl] at this
        injection this
      have hok := HCH.out.ok q hgl
      have hin := HCH.out.inn q hgl
      rw [hge] at hok hin
      obtain ⟨bd, hbd, hub⟩ := body_ok hok hin
      have hbl := body_len ⟨f, kn, es⟩ hin
      have he := fun w (k : Held wr w) => encodeS_any f kn XA xn xc es 0 w ((S1.out.at_ hx).held (hh.step k))
      rw [hbd] at he hbl
      have hd := fun w => decodeS_any ⟨bd.toArray⟩ (by rw [ba_size]; simp only at hbl; omega) w
      rw [show (⟨bd.toArray⟩ : ByteArray).data.toList = bd by simp, hub] at hd
      have HE := Lib.hid he
      have HD := Lib.hid hd
      have HX := Lib.hid hx
      have hcap : q ≤ cap := by have := (Own.cap (M1.out.row 0 rfl)); have := HRL.out; omega
      have hcap2 : (q : Int) + 1 ≤ cap := by have := (Own.cap (M1.out.row 0 rfl)); have := HRL.out; omega
      clear hh hx hge hok hin hbd hub hbl he hd hb
      go_wp2_with fail
      refine (HE.out _ (Held.refl _)).mono ?_
      rintro e w3 ⟨rfl, h3⟩
      have H3 := Lib.hid (HH.out.step h3)
      clear h3 HE x0 x1 x2
      dsimp only
      go_wp2_with fail
      refine (HD.out _).mono ?_
      rintro e w4 ⟨GA, gn, gc, rfl, hgs, h4⟩
      dsimp only at hgs ⊢
      have H4 := Lib.hid (H3.out.step h4)
      have G4 := Lib.hid (hgs 0)
      have HB := Lib.hid fun (w' : World) (k : Held (w4.alloc (.cells #[.int .u64 f, .int .u64 kn, .slice GA gn gc] 32)) w') => Bx.held (Bx.new w4 (.cells #[.int .u64 f, .int .u64 kn, .slice GA gn gc] 32)) k
      clear h4 hgs HD
      have c0 := Bx.cell (HB.out _ (Held.refl _)) 0 rfl
      have c1 := Bx.cell (HB.out _ (Held.refl _)) 1 rfl
      have c2 := Bx.cell (HB.out _ (Held.refl _)) 2 rfl
      have HSS := Lib.hid fun (w' : World) (k : Held (w4.alloc (.cells #[.int .u64 f, .int .u64 kn, .slice GA gn gc] 32)) w') => sameS_any (some ⟨w4.heap.size + 1, 0, none⟩) (some ⟨b, off + q * 3, none⟩) 1 1 (cap - q) [(⟨f, kn, GA, gn, gc, es⟩ : SR)] [(⟨f, kn, XA, xn, xc, es⟩ : SR)] 0 w'
      have HX2 := Lib.hid (sl_mid (HS1.out.held H4.out) HX.out)
      have HN2 := Lib.hid ((Held.refl (w4.alloc (.cells #[.int .u64 f, .int .u64 kn, .slice GA gn gc] 32))).alloc (.cells #[.int .u64 f, .int .u64 kn, .slice GA gn gc] 32))
      have HA4 := Lib.hid ((Held.refl w4).alloc (.cells #[.int .u64 f, .int .u64 kn, .slice GA gn gc] 32))
      have HSA := Lib.hid fun (w' : World) (k : Held ((w4.alloc (.cells #[.int .u64 f, .int .u64 kn, .slice GA gn gc] 32)).alloc (.cells #[.int .u64 f, .int .u64 kn, .slice GA gn gc] 32)) w') =>
        HSS.out w' (HN2.out.step k) (sl_one (x := ⟨f, kn, GA, gn, gc, es⟩) (Bx.held (by have := Bx.new (w4.alloc (.cells #[.int .u64 f, .int .u64 kn, .slice GA gn gc] 32)) (.cells #[.int .u64 f, .int .u64 kn, .slice GA gn gc] 32); simpa using this) k)) (HX2.out.held (HA4.out.step (HN2.out.step k))) (fun y hy => by rw [List.mem_singleton] at hy; subst hy; exact G4.out.held (HA4.out.step (HN2.out.step k))) (fun y hy => by rw [List.mem_singleton] at hy; subst hy; exact (S1.out.at_ HX.out).held (H4.out.step (HA4.out.step (HN2.out.step k)))) rfl (by decide)
      clear HSS HX2
      obtain ⟨w5, hw5⟩ : ∃ w5, w4.alloc (.cells #[.int .u64 f, .int .u64 kn, .slice GA gn gc] 32) = w5 := ⟨_, rfl⟩
      have HW5 := Lib.hid hw5
      have hsz : w5.heap.size = w4.heap.size + 1 := by rw [← hw5]; simp
      rw [hw5] at HSA HN2 HA4 c0 c1 c2
      rw [← hsz] at HSA
      have HSZ := Lib.hid hsz
      clear hw5 hsz HB
      have hwq : IntKind.i64.wrap ((q : Int) + 1) = (q : Int) + 1 := IntWalk.i64_in _ (by omega)
      have hq1 : (q : Int) ≤ (q : Int) + 1 := by omega
      have hqn : ((q : Int) + 1 - q).toNat = 1 := by omega
      have hcq : ¬ cap = q := by omega
      have hq0 : (0 : Int) ≤ (q : Int) + 1 := by omega
      have hlt5 : w4.heap.size < w5.heap.size := by have := HSZ.out; omega
      go_wp2
      rw [HW5.out]
      go_region_held3 (fun w' => w'.cell? ⟨w4.heap.size, 0, none⟩ = some (.int .u64 f) ∧ w'.cell? ⟨w4.heap.size, 1, none⟩ = some (.int .u64 kn) ∧ w'.cell? ⟨w4.heap.size, 2, none⟩ = some (.slice GA gn gc) ∧ Held w5 w')
        ((repeat' refine And.intro ?_ ?_) <;> first | exact c0 | exact c1 | exact c2 | exact HN2.out.drew.cell c0 | exact HN2.out.drew.cell c1 | exact HN2.out.drew.cell c2 | exact K9.out.cell c0 | exact K9.out.cell c1 | exact K9.out.cell c2 | exact Held.refl _ | exact (Held.refl _).drew | exact HN2.out.drew | exact HN2.out | exact K9.out)
        (first | (go_at_call 12; refine (HSA.out _ (Held.refl _).drew).mono ?_; rintro e w9 ⟨rfl, h9⟩; have K9 := Lib.hid ((HN2.out).step ((Held.refl _).drew.step h9)); have H9 := Lib.hid ((H4.out.step HA4.out).step K9.out); clear h9))
      go_wp2
      go_roundw
      case rel => exact ⟨q + 1, by go_num, by omega, H9.out⟩
      case measure => (simp [RowKit.intOf]) <;> omega
    · obtain rfl : q = len0 := by omega
      have z2 : ¬ (q : Int) < q := by omega
      have hd := fun w => decodeS_any s2 (by omega) w
      have hub0 : Is (unbody s2.data.toList) (unbody s2.data.toList) := ⟨rfl⟩
      have hno := unbody_no (s := s2.data.toList)
      have hyes : ∀ g, unbody s2.data.toList = (g, 0) → SegIn g ∧ ∃ t, logOf g = (t, 0) := fun g h => unbody_ok h
      obtain ⟨u, hu⟩ : ∃ u, unbody s2.data.toList = u := ⟨_, rfl⟩
      rw [hu] at hd hno hyes
      have HD := Lib.hid hd
      have M := Lib.hid (M1.out.keep hh)
      obtain ⟨⟨uf, uk, ues⟩, uc⟩ := u
      clear hd hu hub0 hh HH HS1 S1 HCH
      go_wp2_with fail
      refine (HD.out _).mono ?_
      rintro e w4 ⟨GA, gn, gc, rfl, hgs, h4⟩
      dsimp only at hgs ⊢
      have M4 := Lib.hid ((M.out.keep h4).alloc #[.int .u64 uf, .int .u64 uk, .slice GA gn gc] 32)
      have G4 := Lib.hid ((hgs 0).held ((Held.refl w4).alloc (.cells #[.int .u64 uf, .int .u64 uk, .slice GA gn gc] 32)))
      have hgl : gn = ues.length := (hgs 0).sl.1.symm
      clear h4 hgs M HD
      obtain ⟨⟨c0, c1, c2⟩, _, cl⟩ := M4.out.box3 1 rfl
      by_cases huc : ¬ uc = 0
      · have hub : (uc == 0) = false := by rw [beq_eq_false_iff_ne]; exact huc
        have hno2 := hno huc
        have hgn0 : gn = 0 := by
          rw [hgl]
          have := congrArg Seg.es hno2
          exact congrArg List.length this
        subst hgn0
        clear hno hyes hno2 hgl
        go_wp2_with (go_at_call 8; refine (HAW.out _).mono ?_; rintro e w5 ⟨rfl, h5⟩)
        go_ret
        exact ⟨rfl, M4.out.held.step h5⟩
      · have huc := Decidable.not_not.1 huc
        subst huc
        obtain ⟨hin, lg, hlg⟩ := hyes _ rfl
        have hok : segOk ⟨uf, uk, ues⟩ = true := by unfold segOk; rw [hlg]; rfl
        obtain ⟨bd, hbd, hub⟩ := body_ok hok hin
        have hbl := body_len ⟨uf, uk, ues⟩ hin
        have he := encodeS_any uf uk GA gn gc ues 0 _ G4.out
        rw [hbd] at he hbl
        have hd := fun w => decodeS_any ⟨bd.toArray⟩ (by rw [ba_size]; simp only at hbl; omega) w
        rw [show (⟨bd.toArray⟩ : ByteArray).data.toList = bd by simp, hub] at hd
        have HE := Lib.hid he
        have HD := Lib.hid hd
        clear hno hyes hin hlg hok hbd hub hbl he hd hgl
        go_wp2_with fail
        refine HE.out.mono ?_
        rintro e w5 ⟨rfl, h5⟩
        have M5 := Lib.hid (M4.out.keep h5)
        have G5 := Lib.hid (G4.out.held h5)
        clear h5 HE M4 G4 c0 c1 c2 cl
        dsimp only
        go_wp2_with fail
        refine (HD.out _).mono ?_
        rintro e w6 ⟨YA, yn, yc, rfl, hys, h6⟩
        dsimp only at hys ⊢
        have M6 := Lib.hid ((M5.out.keep h6).alloc #[.int .u64 uf, .int .u64 uk, .slice YA yn yc] 32)
        have hA6 := (Held.refl w6).alloc (.cells #[.int .u64 uf, .int .u64 uk, .slice YA yn yc] 32)
        have G6 := Lib.hid ((G5.out.held h6).held hA6)
        have Y6 := Lib.hid ((hys 0).held hA6)
        clear h6 hys hA6 HD M5 G5
        have M7 := Lib.hid ((M6.out.alloc' (b := w6.heap.size + 1) (by simp) #[.int .u64 uf, .int .u64 uk, .slice GA gn gc] 32).alloc' (b := w6.heap.size + 1 + 1) (by simp) #[.int .u64 uf, .int .u64 uk, .slice YA yn yc] 32)
        have hA7 := ((Held.refl (w6.alloc (.cells #[.int .u64 uf, .int .u64 uk, .slice YA yn yc] 32))).alloc (.cells #[.int .u64 uf, .int .u64 uk, .slice GA gn gc] 32)).alloc (.cells #[.int .u64 uf, .int .u64 uk, .slice YA yn yc] 32)
        have HSS := Lib.hid (sameS_any (some ⟨w6.heap.size + 1, 0, none⟩) (some ⟨w6.heap.size + 1 + 1, 0, none⟩) 1 1 1 [(⟨uf, uk, GA, gn, gc, ues⟩ : SR)] [(⟨uf, uk, YA, yn, yc, ues⟩ : SR)] 0 _ (sl_one (x := ⟨uf, uk, GA, gn, gc, ues⟩) (M7.out.blk 3 rfl)) (sl_one (x := ⟨uf, uk, YA, yn, yc, ues⟩) (M7.out.blk 4 rfl)) (fun y hy => by rw [List.mem_singleton] at hy; subst hy; exact G6.out.held hA7) (fun y hy => by rw [List.mem_singleton] at hy; subst hy; exact Y6.out.held hA7) rfl (by decide))
        obtain ⟨⟨c0, c1, c2⟩, _, cl⟩ := M6.out.box3 1 rfl
        obtain ⟨⟨d0, d1, d2⟩, _, dl⟩ := M6.out.box3 2 rfl
        have hn12 := M6.out.ne 1 2 rfl rfl (by decide)
        have hlt1 : w4.heap.size < w6.heap.size + 1 := by simpa using cl
        have hl2 : ¬ w4.heap.size = w6.heap.size + 1 := by omega
        clear hA7
        go_wp2_with (first | (go_at_call 12; refine HSS.out.mono ?_; rintro e w8 ⟨rfl, h8⟩) | (go_at_call 8; refine (HAW.out _).mono ?_; rintro e w9 ⟨rfl, h9⟩))
        go_ret
        exact ⟨rfl, (M7.out.held.step h8).step h9⟩
end St
end Go.Proofs.Ythpjbffhdaaibaa
