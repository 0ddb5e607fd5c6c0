/-
  BalanceEvacuates: the walk of the law.
-/
import Derived.Test.YtmmjofdienoobaaBpQ
set_option linter.unusedVariables false
set_option linter.unusedSimpArgs false
set_option maxRecDepth 100000
namespace Go.Proofs.Ytmmjofdienoobaa
open Go.RowKit Go.BigFrame Go.Sort
namespace Ba
open Ad Adm
theorem at_mv {w a : World} {A : Option Addr} {n : Nat} {L : List Mv} (h : Sl 3 mvC w A n L) (ha : Held w a) {k : Nat} (hk : k < n) :
    ∃ b off d, A = some ⟨b, off, none⟩ ∧ b < w.heap.size ∧ L[k]? = some d ∧ a.cell? ⟨b, off + k * 3, none⟩ = some (.int .i64 d.g) ∧ a.cell? ⟨b, off + k * 3 + 1, none⟩ = some (.int .i64 d.f) ∧ a.cell? ⟨b, off + k * 3 + 2, none⟩ = some (.int .i64 d.t) := by
  obtain ⟨b, off, x, e, hb, hx, hc⟩ := Sl.at_ h ha hk
  exact ⟨b, off, x, e, hb, hx, hc 0 _ rfl, hc 1 _ rfl, hc 2 _ rfl⟩
set_option maxHeartbeats 2000000 in
theorem evacs_walk (A : Option Addr) (n cap : Nat) (l1 : List Int) (B : Option Addr) (m c : Nat) (l2 : List Int) (host : Int) (hwf : (Lit.int .i64 host).wf = true) (w : World) (h1 : InN w A n cap l1) (h2 : InN w B m c l2) :
    Calls Try.prog 4 #[.slice A n cap, .slice B m c, .int .i64 host] w fun e w' => e = .returned (.bool true) ∧ Held w w' := by
  have HAW := Lib.hid awake_any
  by_cases hout : (n : Int) < 1 ∨ 4 < (n : Int) ∨ 6 < (m : Int)
  · clear h1 h2
    by_cases g1 : (n : Int) < 1
    · go_enter Try.func4, Try.ntmps4
      go_wp2_with (go_at_call 9; refine (HAW.out _).mono ?_; rintro e w2 ⟨rfl, h2⟩)
      go_ret
      exact ⟨rfl, h2⟩
    by_cases g2 : (4 : Int) < n
    · go_enter Try.func4, Try.ntmps4
      go_wp2_with (go_at_call 9; refine (HAW.out _).mono ?_; rintro e w2 ⟨rfl, h2⟩)
      go_ret
      exact ⟨rfl, h2⟩
    have g3 : (6 : Int) < m := by omega
    go_enter Try.func4, Try.ntmps4
    go_wp2_with (go_at_call 9; refine (HAW.out _).mono ?_; rintro e w2 ⟨rfl, h2⟩)
    go_ret
    exact ⟨rfl, h2⟩
  · have g1 : ¬ (n : Int) < 1 := by omega
    have g2 : ¬ (4 : Int) < n := by omega
    have g3 : ¬ (6 : Int) < m := by omega
    have HPR := Lib.hid (fun w' (q : Held w w') => problem_any A n cap B m c l1 l2 w' (h1.1.1.held q) (h2.1.1.held q) (by omega) (by omega))
    obtain ⟨H, hH⟩ : ∃ H, l1.map hostOf = H := ⟨_, rfl⟩
    obtain ⟨D, hD⟩ : ∃ D, l2.map demOf = D := ⟨_, rfl⟩
    have hHl : H.length = n := by rw [← hH, List.length_map]; exact h1.1.1.1
    have hDl : D.length = m := by rw [← hD, List.length_map]; exact h2.1.1.1
    rw [hH, hD] at HPR
    unfold PrTo at HPR
    rw [hHl, hDl] at HPR
    have HHD := Lib.hid (And.intro hHl hDl)
    have hwb := Rw.bd_i64 hwf
    have HRD := Lib.hid (fun w' => Mk.round_any host n hwb.1 hwb.2 (by omega) (by omega) w')
    have hrb := Mk.round_bd host n (by omega)
    obtain ⟨hst, hhst⟩ : ∃ x, Mk.round host n = x := ⟨_, rfl⟩
    rw [hhst] at HRD hrb
    obtain ⟨a, ha⟩ : ∃ a, assign H D = a := ⟨_, rfl⟩
    have HSND := Lib.hid (fun q (h : a = some q) => assign_sound (ha.trans h))
    have HNO := Lib.hid (fun (h : a = none) o => assign_none_place (H := H) (L := D) (by rw [hDl]; omega) (ha.trans h) o)
    have HAS := Lib.hid (fun (A7 : Option Addr) c7 (A8 : Option Addr) c8 w' (q1 : Sl 3 hcC w' A7 n H) (q2 : Sl 4 demC w' A8 m D) => assign_any A7 n c7 A8 m c8 H D w' q1 q2)
    rw [ha] at HAS
    clear h1 h2 hout hH hD hHl hDl ha hhst hwb hwf
    have HVA := Lib.hid (fun (A7 : Option Addr) c7 (A8 : Option Addr) c8 (A9 : Option Addr) n9 c9 (o : List Int) w' (q1 : Sl 3 hcC w' A7 n H) (q2 : Sl 4 demC w' A8 m D) (q3 : Sl 1 inC w' A9 n9 o) (hn9 : (n9 : Int) ≤ 1000000) => lawvalid_any A7 n c7 A8 m c8 A9 n9 c9 H D o w' q1 q2 q3 (by omega) (by omega) (by omega) hn9)
    have HEV := Lib.hid (fun (A7 : Option Addr) c7 (A8 : Option Addr) c8 (A9 : Option Addr) n9 c9 (o : List Int) w' (q1 : Sl 3 hcC w' A7 n H) (q2 : Sl 4 demC w' A8 m D) (q3 : Sl 1 inC w' A9 n9 o) (q4 : A8 = none → m = 0) (q5 : A9 = none → n9 = 0) => evac_any A7 n c7 A8 m c8 A9 n9 c9 hst H D o w' q1 q2 q3 q4 q5)
    cases a with
    | none =>
      have HE : Hid (evacuate H D [] hst = none) := show _ = _ from evac_no (by rw [HNO.out rfl []]; simp)
      go_enter Try.func4, Try.ntmps4
      go_wp2_with (first | (go_at_call 10; refine (HPR.out _ (Held.refl _)).mono ?_; rintro e w2 ⟨A7, c7, A8, c8, rfl, s7, s8, _, _, n8, k2⟩; have S7 := Lib.hid s7; have S8 := Lib.hid s8; have N8 := Lib.hid n8; clear s7 s8 n8) | (go_at_call 11; refine (HAS.out A7 c7 A8 c8 _ S7.out S8.out).mono ?_; rintro e w3 ⟨A9, n9, c9, rfl, s9, _, n10, k3⟩; obtain rfl : n9 = 0 := s9.1.symm; have S9 := Lib.hid (show Sl 1 inC w3 A9 0 [] from s9); clear s9 n10) | (go_at_call 13; refine (HRD.out _).mono ?_; rintro e w4 ⟨rfl, rfl⟩) | (go_at_call 14; refine (HEV.out A7 c7 A8 c8 A9 0 c9 [] _ (S7.out.held k3) (S8.out.held k3) S9.out N8.out (fun _ => rfl)).mono ?_; rw [HE.out]; rintro e w5 ⟨B1, m1, d1, B2, m2, d2, rfl, s10, s11, k5⟩; obtain rfl : m1 = 0 := s10.1.symm; obtain rfl : m2 = 0 := s11.1.symm) | (go_at_call 9; refine (HAW.out _).mono ?_; rintro e w6 ⟨rfl, k6⟩))
      go_ret
      exact ⟨rfl, ((k2.step k3).step k5).step k6⟩
    | some q =>
      obtain ⟨hps, hql⟩ := HSND.out q rfl
      rw [HHD.out.2] at hql
      have HQL := Lib.hid hql
      obtain ⟨ev, hev⟩ : ∃ ev, evacuate H D q hst = ev := ⟨_, rfl⟩
      have HEE := Lib.hid hev
      have HEV2 := Lib.hid (evac_yes (H := H) (L := D) (on := q) (host := hst) ⟨hps, by omega, by rw [HHD.out.1]; omega⟩)
      rw [hev, HHD.out.2] at HEV2
      have HOK := Lib.hid (ev_ok (host := hst) hps m (by rw [HHD.out.2]; omega))
      have HLN := Lib.hid (fun s h => evTo_len (H := H) (L := D) (on := q) (host := hst) m s h)
      clear hps hql hev
      cases ev with
      | none =>
        go_enter Try.func4, Try.ntmps4
        go_wp2_with (first | (go_at_call 10; refine (HPR.out _ (Held.refl _)).mono ?_; rintro e w2 ⟨A7, c7, A8, c8, rfl, s7, s8, _, _, n8, k2⟩; have S7 := Lib.hid s7; have S8 := Lib.hid s8; have N8 := Lib.hid n8; clear s7 s8 n8) | (go_at_call 11; refine (HAS.out A7 c7 A8 c8 _ S7.out S8.out).mono ?_; rintro e w3 ⟨A9, n9, c9, rfl, s9, _, n10, k3⟩; obtain rfl : n9 = m := s9.1.symm.trans HQL.out; have S9 := Lib.hid (show Sl 1 inC w3 A9 n9 q from s9); have N9 := Lib.hid n10; clear s9 n10) | (go_at_call 13; refine (HRD.out _).mono ?_; rintro e w4 ⟨rfl, rfl⟩))
        refine (HEV.out A7 c7 A8 c8 A9 n9 c9 q _ (S7.out.held k3) (S8.out.held k3) S9.out N8.out N9.out).mono ?_
        rw [HEE.out]
        rintro e w5 ⟨B1, m1, d1, B2, m2, d2, rfl, s10, s11, k5⟩
        have E10 := s10.1
        have E11 := s11.1
        simp only [Option.getD_none, List.length_nil] at E10 E11
        subst E10 E11
        go_wp2_with (go_at_call 9; refine (HAW.out _).mono ?_; rintro e w6 ⟨rfl, k6⟩)
        go_ret
        exact ⟨rfl, ((k2.step k3).step k5).step k6⟩
      | some s =>
        obtain ⟨ms, x⟩ := s
        have HK := Lib.hid (HOK.out ms x HEV2.out.symm)
        have hln := HLN.out (ms, x) HEV2.out.symm
        simp only [HQL.out] at hln
        have HML := Lib.hid hln
        clear hln
        go_enter Try.func4, Try.ntmps4
        go_wp2_with (first | (go_at_call 10; refine (HPR.out _ (Held.refl _)).mono ?_; rintro e w2 ⟨A7, c7, A8, c8, rfl, s7, s8, _, _, n8, k2⟩; have S7 := Lib.hid s7; have S8 := Lib.hid s8; have N8 := Lib.hid n8; clear s7 s8 n8) | (go_at_call 11; refine (HAS.out A7 c7 A8 c8 _ S7.out S8.out).mono ?_; rintro e w3 ⟨A9, n9, c9, rfl, s9, _, n10, k3⟩; obtain rfl : n9 = m := s9.1.symm.trans HQL.out; have S9 := Lib.hid (show Sl 1 inC w3 A9 n9 q from s9); have N9 := Lib.hid n10; clear s9 n10) | (go_at_call 13; refine (HRD.out _).mono ?_; rintro e w4 ⟨rfl, rfl⟩))
        refine (HEV.out A7 c7 A8 c8 A9 n9 c9 q _ (S7.out.held k3) (S8.out.held k3) S9.out N8.out N9.out).mono ?_
        rw [HEE.out]
        rintro e w5 ⟨B1, m1, d1, B2, m2, d2, rfl, s10, s11, k5⟩
        have S10 := Lib.hid (show Sl 3 mvC w5 B1 m1 ms from s10)
        have S11 := Lib.hid (show Sl 1 inC w5 B2 m2 x from s11)
        obtain rfl : m2 = n9 := S11.out.1.symm.trans HML.out.2
        have hm1 : (m1 : Int) ≤ 6 := by have := HML.out.1; have := S10.out.1; omega
        clear s10 s11
        have M6 := Lib.hid ((Mem.start w5).emptyRow (b := w5.heap.size) rfl (e := 3) (s := 1) (f := inC))
        go_wp2_with (at_builtin; refine Mem.wp_cat M6.out 0 rfl rfl _ _ _ rfl _ 8 Try.underlying22 info_int rfl (by decide) inC_len inC_one q A9 m2 c9 rfl rfl (S9.out.held (k5.alloc _)) rfl (by omega) (by decide) ?_; intro A8x cap8 w8 M8 hA8; simp only [Nat.zero_add, List.nil_append] at M8 ⊢; have M9 := Lib.hid M8; clear M8 hA8)
        have HQ5 := Lib.hid (S9.out.held k5)
        have H75 := Lib.hid (S7.out.held (k3.step k5))
        have H85 := Lib.hid (S8.out.held (k3.step k5))
        have K5 := Lib.hid ((k2.step k3).step k5)
        go_loopw [16] (fun i wr => ∃ j : Nat, i = .int .i64 j ∧ j ≤ m1 ∧ Mem w5 wr [.row 3 1 inC w5.heap.size (.slice A8x m2 cap8) (app q (ms.take j))]) (fun i _ => m1 - (intOf i).toNat)
        case atStart => exact ⟨0, rfl, Nat.zero_le _, M9.out⟩
        case round =>
          obtain ⟨j, rfl, hj, M⟩ := hrel
          have M10 := Lib.hid M
          clear M M9 M6
          by_cases hlt : (j : Int) < m1
          · obtain ⟨b1, o1, mv, rfl, lb1, hmv, x0, x1, x2⟩ := at_mv S10.out M10.out.held (k := j) (by omega)
            obtain ⟨g, t, rfl, ht, hag, hpl⟩ := HK.out.step j mv hmv
            simp only at x0 x1 x2
            have hgl := (List.getElem?_eq_some_iff.1 hag).1
            rw [app_len, HQL.out] at hgl
            have HAN := Lib.hid (app_next (on := q) hmv)
            have HPL := Lib.hid hpl
            have HAG := Lib.hid hag
            have hj0 : ¬ (j : Int) < 0 := by omega
            have e1 : (hst != hst) = false := by simp
            have e2 : ((t : Int) == hst) = false := by simpa using ht
            have e3 : ¬ (g : Int) < 0 := by omega
            have e4 : (g : Int) < m2 := by omega
            have e5 : ¬ (m2 : Int) ≤ g := by omega
            obtain ⟨g5, c5, e9, _⟩ := own_blk (M10.out.row 0 rfl) (by rw [app_len, HQL.out]; omega)
            injection e9 with e9 e10 e11
            subst e9
            clear e10 e11 hmv hag hpl ht
            have M11 := Lib.hid (M10.out.alloc #[.int .i64 g, .int .i64 hst, .int .i64 t] 37)
            obtain ⟨y0, yf, ylt⟩ := slot1 M11.out 0 rfl HAG.out
            have M12 := Lib.hid (put1 M11.out 0 rfl HAG.out (t : Int))
            obtain ⟨⟨z0, z1, z2⟩, _, zlt⟩ := M12.out.box3 1 rfl
            have HVX := Lib.hid (HVA.out A7 c7 A8 c8 (some ⟨g5, 0, none⟩) m2 cap8 ((app q (ms.take j)).set g t) _ (H75.out.held M12.out.held) (H85.out.held M12.out.held) (Own.reads inC_len (M12.out.row 0 rfl)).1 (by omega))
            have HPX : Hid (place H D ((app q (ms.take j)).set g (t : Int)) = true) := show _ = _ by
              have := HPL.out
              rw [HAN.out] at this; exact this
            rw [HPX.out] at HVX
            have HAN2 : Hid (app q (ms.take (j + 1)) = (app q (ms.take j)).set g (t : Int)) := HAN.out
            go_wp2_with (go_at_call 12; refine HVX.out.mono ?_; rintro e w13 ⟨rfl, k13⟩; have M13 := Lib.hid (M12.out.keep k13))
            go_roundw
            case rel => exact ⟨j + 1, by go_num, by omega, by rw [HAN2.out]; exact M13.out.take 1⟩
            case measure => (simp [intOf]) <;> omega
          · obtain rfl : m1 = j := by omega
            have hap : app q (ms.take m1) = x := by rw [← S10.out.1, List.take_length]; exact HK.out.all
            rw [hap] at M10
            have HSX := Lib.hid (Own.reads inC_len (M10.out.row 0 rfl)).1
            clear hap
            have K10 := Lib.hid (K5.out.step M10.out.held)
            have HQ10 := Lib.hid (HQ5.out.held M10.out.held)
            have HS11 := Lib.hid (S11.out.held M10.out.held)
            obtain ⟨wA, hwA⟩ : ∃ wA, wA = wr := ⟨_, rfl⟩
            rw [← hwA] at HSX K10 HQ10 HS11 ⊢
            clear hwA M10 wr
            go_wp2
            go_loopw [18] (fun i wr => ∃ k : Nat, i = .int .i64 k ∧ k ≤ m2 ∧ Held wA wr) (fun i _ => m2 - (intOf i).toNat)
            case atStart => exact ⟨0, rfl, Nat.zero_le _, Held.refl _⟩
            case round =>
              obtain ⟨k, rfl, hk, hw⟩ := hrel
              have HW := Lib.hid hw
              clear hw
              have k0 : ¬ (k : Int) < 0 := by omega
              by_cases hlt : (k : Int) < m2
              · obtain ⟨b1, o1, u, rfl, _, hu, u0⟩ := Sl.at1 HSX.out HW.out (k := k) (by omega)
                obtain ⟨b2, o2, v, rfl, _, hv, v0⟩ := Sl.at1 HQ10.out HW.out (k := k) (by omega)
                have huh : ¬ u = hst := fun e => HK.out.free k (by omega) (by rw [hu, e])
                have hb1 : (u == hst) = false := by simp [huh]
                have r0 := cell_regrown u0
                have r1 := cell_regrown v0
                by_cases hvh : v = hst
                · have hb2 : (v != hst) = false := by simp [hvh]
                  clear hu hv huh hvh u0 v0
                  go_wp2
                  refine wp_region_quiet_below (by kernel_rfl) (by kernel_rfl) ?_
                  repeat (go_big_quiet_step (fail))
                  refine wpQuiet_nil ?_
                  intro w15 hw'
                  obtain ⟨⟨dq, osq⟩, hw''⟩ := hw'
                  have h15 : Held wr w15 := by rw [hw'']; exact below_regrown _ dq osq
                  clear hw'' r0 r1
                  go_wp2
                  go_roundw
                  case rel => exact ⟨k + 1, by go_num, by omega, HW.out.step h15⟩
                  case measure => (simp [intOf]) <;> omega
                · have hb2 : (v != hst) = true := by simp [hvh]
                  have huv : u = v := by
                    have := HK.out.keep k v hv hvh
                    rw [hu] at this; injection this
                  have hb3 : (u != v) = false := by simp [huv]
                  clear hu hv huh hvh u0 v0 huv
                  go_wp2
                  refine wp_region_quiet_below (by kernel_rfl) (by kernel_rfl) ?_
                  repeat (go_big_quiet_step (fail))
                  refine wpQuiet_nil ?_
                  intro w15 hw'
                  obtain ⟨⟨dq, osq⟩, hw''⟩ := hw'
                  have h15 : Held wr w15 := by rw [hw'']; exact below_regrown _ dq osq
                  clear hw'' r0 r1
                  go_wp2
                  go_roundw
                  case rel => exact ⟨k + 1, by go_num, by omega, HW.out.step h15⟩
                  case measure => (simp [intOf]) <;> omega
              · have HSI := Lib.hid (sameI_any A8x m2 cap8 B2 m2 d2 x wr (HSX.out.held HW.out) (HS11.out.held HW.out) (by omega))
                go_wp2_with (first | (go_at_call 15; refine HSI.out.mono ?_; rintro e w16 ⟨rfl, k16⟩) | (go_at_call 9; refine (HAW.out _).mono ?_; rintro e w17 ⟨rfl, k17⟩))
                go_ret
                exact ⟨rfl, ((K10.out.step HW.out).step k16).step k17⟩
end Ba
end Go.Proofs.Ytmmjofdienoobaa
