/-
  BalanceMoves: the walk of the law.
-/
import Derived.Test.YtmmjofdienoobaaBpQ
set_option linter.unusedVariables false
set_option linter.unusedSimpArgs false
set_option maxRecDepth 100000
namespace Go.Proofs.Ytmmjofdienoobaa
open Go.RowKit Go.BigFrame Go.Sort
namespace Ba
open Ad Adm
theorem at_mv {w a : World} {A : Option Addr} {n : Nat} {L : List Mv} (h : Sl 3 mvC w A n L) (ha : Held w a) {k : Nat} (hk : k < n) :
    ∃ b off d, A = some ⟨b, off, none⟩ ∧ b < w.heap.size ∧ L[k]? = some d ∧ a.cell? ⟨b, off + k * 3, none⟩ = some (.int .i64 d.g) ∧ a.cell? ⟨b, off + k * 3 + 1, none⟩ = some (.int .i64 d.f) ∧ a.cell? ⟨b, off + k * 3 + 2, none⟩ = some (.int .i64 d.t) := by
  obtain ⟨b, off, x, e, hb, hx, hc⟩ := Sl.at_ h ha hk
  exact ⟨b, off, x, e, hb, hx, hc 0 _ rfl, hc 1 _ rfl, hc 2 _ rfl⟩
theorem spread_none {H : List Hc} {L : List Dem} {q : List Int} (h : (spread H L q).2 = false) (N : Nat) : (rb H L N q).1.length = 0 := by
  rw [rb_no (by rw [improve_no h])]; rfl
theorem reb_10 {H : List Hc} {L : List Dem} {q : List Int} (h : place H L q = true) : rebalance H L q 10 = rb H L 10 q := by rw [rebalance_yes h]; rfl
set_option maxHeartbeats 2000000 in
theorem moves_walk (A : Option Addr) (n cap : Nat) (l1 : List Int) (B : Option Addr) (m c : Nat) (l2 : List Int) (w : World) (h1 : InN w A n cap l1) (h2 : InN w B m c l2) :
    Calls Try.prog 8 #[.slice A n cap, .slice B m c] w fun e w' => e = .returned (.bool true) ∧ Held w w' := by
  have HAW := Lib.hid awake_any
  by_cases hout : (n : Int) < 1 ∨ 4 < (n : Int) ∨ 6 < (m : Int)
  · clear h1 h2
    by_cases g1 : (n : Int) < 1
    · go_enter Try.func8, Try.ntmps8
      go_wp2_with (go_at_call 9; refine (HAW.out _).mono ?_; rintro e w2 ⟨rfl, h2⟩)
      go_ret
      exact ⟨rfl, h2⟩
    by_cases g2 : (4 : Int) < n
    · go_enter Try.func8, Try.ntmps8
      go_wp2_with (go_at_call 9; refine (HAW.out _).mono ?_; rintro e w2 ⟨rfl, h2⟩)
      go_ret
      exact ⟨rfl, h2⟩
    have g3 : (6 : Int) < m := by omega
    go_enter Try.func8, Try.ntmps8
    go_wp2_with (go_at_call 9; refine (HAW.out _).mono ?_; rintro e w2 ⟨rfl, h2⟩)
    go_ret
    exact ⟨rfl, h2⟩
  · have g1 : ¬ (n : Int) < 1 := by omega
    have g2 : ¬ (4 : Int) < n := by omega
    have g3 : ¬ (6 : Int) < m := by omega
    have HPR := Lib.hid (fun w' (q : Held w w') => problem_any A n cap B m c l1 l2 w' (h1.1.1.held q) (h2.1.1.held q) (by omega) (by omega))
    obtain ⟨H, hH⟩ : ∃ H, l1.map hostOf = H := ⟨_, rfl⟩
    obtain ⟨D, hD⟩ : ∃ D, l2.map demOf = D := ⟨_, rfl⟩
    have hHl : H.length = n := by rw [← hH, List.length_map]; exact h1.1.1.1
    have hDl : D.length = m := by rw [← hD, List.length_map]; exact h2.1.1.1
    rw [hH, hD] at HPR
    unfold PrTo at HPR
    rw [hHl, hDl] at HPR
    have HHD := Lib.hid (And.intro hHl hDl)
    obtain ⟨a, ha⟩ : ∃ a, assign H D = a := ⟨_, rfl⟩
    have HSND := Lib.hid (fun q (h : a = some q) => assign_sound (ha.trans h))
    have HAS := Lib.hid (fun (A7 : Option Addr) c7 (A8 : Option Addr) c8 w' (q1 : Sl 3 hcC w' A7 n H) (q2 : Sl 4 demC w' A8 m D) => assign_any A7 n c7 A8 m c8 H D w' q1 q2)
    rw [ha] at HAS
    clear h1 h2 hout hH hD hHl hDl ha
    have HVA := Lib.hid (fun (A7 : Option Addr) c7 (A8 : Option Addr) c8 (A9 : Option Addr) n9 c9 (o : List Int) w' (q1 : Sl 3 hcC w' A7 n H) (q2 : Sl 4 demC w' A8 m D) (q3 : Sl 1 inC w' A9 n9 o) (hn9 : (n9 : Int) ≤ 1000000) => lawvalid_any A7 n c7 A8 m c8 A9 n9 c9 H D o w' q1 q2 q3 (by omega) (by omega) (by omega) hn9)
    have HSP := Lib.hid (fun (A7 : Option Addr) c7 (A8 : Option Addr) c8 (A9 : Option Addr) n9 c9 (o : List Int) w' (q1 : Sl 3 hcC w' A7 n H) (q2 : Sl 4 demC w' A8 m D) (q3 : Sl 1 inC w' A9 n9 o) => spread_any A7 n c7 A8 m c8 A9 n9 c9 H D o w' q1 q2 q3)
    cases a with
    | none =>
      go_enter Try.func8, Try.ntmps8
      go_wp2_with (first | (go_at_call 10; refine (HPR.out _ (Held.refl _)).mono ?_; rintro e w2 ⟨A7, c7, A8, c8, rfl, s7, s8, _, _, n8, k2⟩; have S7 := Lib.hid s7; have S8 := Lib.hid s8; have N8 := Lib.hid n8; clear s7 s8 n8) | (go_at_call 11; refine (HAS.out A7 c7 A8 c8 _ S7.out S8.out).mono ?_; rintro e w3 ⟨A9, n9, c9, rfl, s9, _, n10, k3⟩; clear s9 n10) | (go_at_call 9; refine (HAW.out _).mono ?_; rintro e w6 ⟨rfl, k6⟩))
      go_ret
      exact ⟨rfl, (k2.step k3).step k6⟩
    | some q =>
      obtain ⟨hps, hql⟩ := HSND.out q rfl
      rw [HHD.out.2] at hql
      have HQL := Lib.hid hql
      have HRB := Lib.hid (reb_10 hps)
      obtain ⟨p1, p2, p3, p4⟩ := rb_spec H D 10 q
      have hsn := fun h => spread_none (H := H) (L := D) (q := q) h 10
      obtain ⟨⟨ms, x⟩, hr⟩ : ∃ r, rb H D 10 q = r := ⟨_, rfl⟩
      rw [hr] at HRB p1 p2 p3 p4 hsn
      simp only at p1 p2 p3 p4 hsn
      have HP1 := Lib.hid p1
      have HP3 := Lib.hid p3
      have HP4 := Lib.hid p4
      have HSN := Lib.hid hsn
      have HP2 := Lib.hid p2
      obtain ⟨⟨s0, up⟩, hs0⟩ : ∃ p, spread H D q = p := ⟨_, rfl⟩
      have HS0 := Lib.hid hs0
      clear hps hql p1 p2 p3 p4 hsn hr hs0
      go_enter Try.func8, Try.ntmps8
      go_wp2_with (first | (go_at_call 10; refine (HPR.out _ (Held.refl _)).mono ?_; rintro e w2 ⟨A7, c7, A8, c8, rfl, s7, s8, _, _, n8, k2⟩; have S7 := Lib.hid s7; have S8 := Lib.hid s8; have N8 := Lib.hid n8; clear s7 s8 n8) | (go_at_call 11; refine (HAS.out A7 c7 A8 c8 _ S7.out S8.out).mono ?_; rintro e w3 ⟨A9, n9, c9, rfl, s9, _, n10, k3⟩; obtain rfl : n9 = m := s9.1.symm.trans HQL.out; have S9 := Lib.hid (show Sl 1 inC w3 A9 n9 q from s9); have N9 := Lib.hid n10; clear s9 n10))
      refine (rebalance_any A7 n c7 A8 n9 c8 A9 n9 c9 10 H D q _ (S7.out.held k3) (S8.out.held k3) S9.out N9.out).mono ?_
      rw [HRB.out]
      rintro e w5 ⟨B1, m1, d1, B2, m2, d2, rfl, s10, s11, k5⟩
      have S10 := Lib.hid (show Sl 3 mvC w5 B1 m1 ms from s10)
      have S11 := Lib.hid (show Sl 1 inC w5 B2 m2 x from s11)
      have hxl : x.length = n9 := by rw [← HP1.out, app_len, HQL.out]
      obtain rfl : m2 = n9 := S11.out.1.symm.trans hxl
      have hm1 : (m1 : Int) ≤ 10 := by have := HP2.out; have := S10.out.1; omega
      clear s10 s11 hxl
      have M6 := Lib.hid ((Mem.start w5).emptyRow (b := w5.heap.size) rfl (e := 3) (s := 1) (f := inC))
      have HQ5 := Lib.hid (S9.out.held k5)
      have H75 := Lib.hid (S7.out.held (k3.step k5))
      have H85 := Lib.hid (S8.out.held (k3.step k5))
      have K5 := Lib.hid ((k2.step k3).step k5)
      go_wp2_with (first | (at_builtin; refine Mem.wp_cat M6.out 0 rfl rfl _ _ _ rfl _ 8 Try.underlying22 info_int rfl (by decide) inC_len inC_one q A9 m2 c9 rfl rfl (S9.out.held (k5.alloc _)) rfl (by omega) (by decide) ?_; intro A8x cap8 w8 M8 hA8; simp only [Nat.zero_add, List.nil_append] at M8 ⊢; have M8' := Lib.hid M8; clear M8 hA8) | (go_at_call 23; refine (HSP.out A7 c7 A8 c8 A8x m2 cap8 q _ (H75.out.held M8'.out.held) (H85.out.held M8'.out.held) (Own.reads inC_len (M8'.out.row 0 rfl)).1).mono ?_; rw [HS0.out]; rintro e w9 ⟨rfl, k9⟩; have M9 := Lib.hid (M8'.out.keep k9)))
      go_loopw [12, 14] (fun s i wr => ∃ j : Nat, i = .int .i64 j ∧ j ≤ m1 ∧ s = .int .i64 (spread H D (app q (ms.take j))).1 ∧ Mem w5 wr [.row 3 1 inC w5.heap.size (.slice A8x m2 cap8) (app q (ms.take j))]) (fun _ i _ => m1 - (intOf i).toNat)
      case atStart => exact ⟨0, rfl, Nat.zero_le _, by show Value.int .i64 s0 = .int .i64 (spread H D q).1; rw [HS0.out], M9.out⟩
      case round =>
        obtain ⟨j, rfl, hj, rfl, M⟩ := hrel
        have M10 := Lib.hid M
        clear M M9 M6
        by_cases hlt : (j : Int) < m1
        · obtain ⟨b1, o1, mv, rfl, lb1, hmv, x0, x1, x2⟩ := at_mv S10.out M10.out.held (k := j) (by omega)
          obtain ⟨g, t, fr, rfl, hag, ht, hs1, hs2⟩ := improve_spec (HP4.out j mv hmv)
          simp only at x0 x1 x2
          have hgl := (List.getElem?_eq_some_iff.1 hag).1
          rw [app_len, HQL.out] at hgl
          have HAN2 : Hid (app q (ms.take (j + 1)) = (app q (ms.take j)).set g (t : Int)) := app_next (on := q) hmv
          have hmd : mvd (app q (ms.take j)) ⟨g, fr, t⟩ = (app q (ms.take j)).set g (t : Int) := rfl
          rw [hmd] at hs1 hs2
          have HPX := Lib.hid (spread_ok hs1)
          have HAG := Lib.hid hag
          obtain ⟨⟨s1, ok1⟩, hsp⟩ : ∃ p, spread H D ((app q (ms.take j)).set g (t : Int)) = p := ⟨_, rfl⟩
          have HSQ := Lib.hid hsp
          rw [hsp] at hs1 hs2
          simp only at hs1 hs2
          subst hs1
          obtain ⟨sv, hsv⟩ : ∃ sv, (spread H D (app q (ms.take j))).1 = sv := ⟨_, rfl⟩
          rw [hsv] at hs2 ⊢
          have hs3 : ¬ sv ≤ s1 := by omega
          have hj0 : ¬ (j : Int) < 0 := by omega
          have e1 : (fr != fr) = false := by simp
          have e2 : ((t : Int) == fr) = false := by simpa using ht
          have e3 : ¬ (g : Int) < 0 := by omega
          have e4 : (g : Int) < m2 := by omega
          have e5 : ¬ (m2 : Int) ≤ g := by omega
          have e6 : decide ((g : Int) < 0) = false := by simp
          have e7 : decide ((m2 : Int) ≤ g) = false := by simp; omega
          have e8 : decide (m2 ≤ g) = false := by simp; omega
          obtain ⟨g5, c5, e9, _⟩ := own_blk (M10.out.row 0 rfl) (by rw [app_len, HQL.out]; omega)
          injection e9 with e9 e10 e11
          subst e9
          have M11 := Lib.hid (M10.out.alloc #[.int .i64 g, .int .i64 fr, .int .i64 t] 37)
          obtain ⟨y0, yf, ylt⟩ := slot1 M11.out 0 rfl HAG.out
          obtain ⟨⟨z0, z1, z2⟩, _, zlt⟩ := M11.out.box3 1 rfl
          have r0 := cell_regrown y0
          have r1 := cell_regrown z0
          have r2 := cell_regrown z1
          have r3 := cell_regrown z2
          clear e10 e11 hmv hag ht hsp hsv hmd y0 yf z0 z1 z2
          go_wp2
          refine wp_region_quiet_below (by kernel_rfl) (by kernel_rfl) ?_
          repeat (go_big_quiet_step (fail))
          refine wpQuiet_nil ?_
          intro w12 hw'
          obtain ⟨⟨dq, osq⟩, hw''⟩ := hw'
          have h12 : Held (wr.alloc (.cells #[.int .i64 g, .int .i64 fr, .int .i64 t] 37)) w12 := by rw [hw'']; exact below_regrown _ dq osq
          clear hw'' r0 r1 r2 r3
          have M12 := Lib.hid (M11.out.keep h12)
          obtain ⟨y0, yf, ylt2⟩ := slot1 M12.out 0 rfl HAG.out
          obtain ⟨⟨z0, z1, z2⟩, _, zlt2⟩ := M12.out.box3 1 rfl
          have M13 := Lib.hid (put1 M12.out 0 rfl HAG.out (t : Int))
          have HO13 := Lib.hid (Own.reads inC_len (M13.out.row 0 rfl)).1
          have HSX := Lib.hid (HSP.out A7 c7 A8 c8 (some ⟨g5, 0, none⟩) m2 cap8 ((app q (ms.take j)).set g t) _ (H75.out.held M13.out.held) (H85.out.held M13.out.held) HO13.out)
          rw [HSQ.out] at HSX
          have HVX := Lib.hid (fun w' (qq : Held _ w') => HVA.out A7 c7 A8 c8 (some ⟨g5, 0, none⟩) m2 cap8 ((app q (ms.take j)).set g t) w' (H75.out.held (M13.out.held.step qq)) (H85.out.held (M13.out.held.step qq)) (HO13.out.held qq) (by omega))
          rw [HPX.out] at HVX
          go_wp2_with (first | (go_at_call 23; refine HSX.out.mono ?_; rintro e w14 ⟨rfl, k14⟩; have M14 := Lib.hid (M13.out.keep k14)) | (go_at_call 12; refine (HVX.out _ k14).mono ?_; rintro e w15 ⟨rfl, k15⟩; have M15 := Lib.hid (M14.out.keep k15)))
          go_roundw
          case rel => exact ⟨j + 1, by go_num, by omega, by rw [HAN2.out, HSQ.out], by rw [HAN2.out]; exact M15.out.take 1⟩
          case measure => (simp [intOf]) <;> omega
        · obtain rfl : m1 = j := by omega
          have hap : app q (ms.take m1) = x := by rw [← S10.out.1, List.take_length]; exact HP1.out
          rw [hap] at M10
          have HSX := Lib.hid (Own.reads inC_len (M10.out.row 0 rfl)).1
          obtain ⟨sv, hsv⟩ : ∃ sv, (spread H D (app q (ms.take m1))).1 = sv := ⟨_, rfl⟩
          rw [hsv]
          clear hap hsv
          have HIM := Lib.hid (improve_any A7 n c7 A8 m2 c8 A8x m2 cap8 H D x wr (H75.out.held M10.out.held) (H85.out.held M10.out.held) HSX.out (fun h => by have := own_none (M10.out.row 0 rfl) h; rw [← this]; exact HSX.out.1.symm) (by omega) (by omega))
          obtain ⟨⟨im, more⟩, him⟩ : ∃ p, improve H D x = p := ⟨_, rfl⟩
          have HMO : Hid (m1 < 10 → more = false) := fun h => by have := HP3.out (by have := S10.out.1; omega); rw [him] at this; exact this
          have HUP : Hid (up = false → m1 = 0) := fun h => by have := HSN.out (by rw [HS0.out]; exact h); have := S10.out.1; omega
          rw [him] at HIM
          clear him
          have HSI := Lib.hid (fun w' (qq : Held wr w') => sameI_any A8x m2 cap8 B2 m2 d2 x w' (HSX.out.held qq) (S11.out.held (M10.out.held.step qq)) (by omega))
          cases up
          · obtain rfl : m1 = 0 := HUP.out rfl
            obtain rfl : more = false := HMO.out (by omega)
            go_wp2_with (first | (go_at_call 24; refine HIM.out.mono ?_; rintro e w16 ⟨rfl, k16⟩; have k17 := k16.alloc (.cells #[.int .i64 im.g, .int .i64 im.f, .int .i64 im.t] 37)) | (go_at_call 15; refine (HSI.out _ k17).mono ?_; rintro e w18 ⟨rfl, k18⟩) | (go_at_call 9; refine (HAW.out _).mono ?_; rintro e w19 ⟨rfl, k19⟩))
            go_ret
            exact ⟨rfl, (((K5.out.step M10.out.held).step k17).step k18).step k19⟩
          · by_cases h10 : m1 = 10
            · subst h10
              go_wp2_with (first | (go_at_call 24; refine HIM.out.mono ?_; rintro e w16 ⟨rfl, k16⟩; have k17 := k16.alloc (.cells #[.int .i64 im.g, .int .i64 im.f, .int .i64 im.t] 37)) | (go_at_call 15; refine (HSI.out _ k17).mono ?_; rintro e w18 ⟨rfl, k18⟩) | (go_at_call 9; refine (HAW.out _).mono ?_; rintro e w19 ⟨rfl, k19⟩))
              go_ret
              exact ⟨rfl, (((K5.out.step M10.out.held).step k17).step k18).step k19⟩
            · obtain rfl : more = false := HMO.out (by omega)
              have e10 : ((m1 : Int) == 10) = false := by simp; omega
              clear h10
              go_wp2_with (first | (go_at_call 24; refine HIM.out.mono ?_; rintro e w16 ⟨rfl, k16⟩; have k17 := k16.alloc (.cells #[.int .i64 im.g, .int .i64 im.f, .int .i64 im.t] 37)) | (go_at_call 15; refine (HSI.out _ k17).mono ?_; rintro e w18 ⟨rfl, k18⟩) | (go_at_call 9; refine (HAW.out _).mono ?_; rintro e w19 ⟨rfl, k19⟩))
              go_ret
              exact ⟨rfl, (((K5.out.step M10.out.held).step k17).step k18).step k19⟩
end Ba
end Go.Proofs.Ytmmjofdienoobaa
