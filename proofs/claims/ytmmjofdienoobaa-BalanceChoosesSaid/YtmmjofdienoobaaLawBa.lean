/-
  The law package of chapter 40: tells returns true.
-/
import Derived.Test.YtmmjofdienoobaaBaZ
import Derived.Lib.QuietBelow
set_option linter.unusedVariables false
set_option linter.unusedSimpArgs false
set_option maxRecDepth 100000
namespace Go.Proofs.Ytmmjofdienoobaa
open Go.RowKit Go.BigFrame Go.Sort
namespace Ba
open Ad Adm
theorem rb_len (H : List Hc) (L : List Dem) : ∀ k x, (rb H L k x).1.length ≤ k ∧ (rb H L k x).2.length = x.length
  | 0, x => ⟨Nat.le_refl _, rfl⟩
  | k + 1, x => by
    rw [rb]
    split
    · have := rb_len H L k (mvd x (improve H L x).1)
      unfold mvd at this ⊢
      rw [List.length_set] at this
      simp only [List.length_cons]
      omega
    · exact ⟨Nat.zero_le _, rfl⟩
theorem rebalance_len (H : List Hc) (L : List Dem) (on : List Int) (most : Int) : (rebalance H L on most).1.length ≤ 10 ∧ (rebalance H L on most).2.length ≤ on.length := by
  unfold rebalance
  split
  · have := rb_len H L (min most 10).toNat on
    omega
  · exact ⟨Nat.zero_le _, Nat.zero_le _⟩
theorem evTo_len {H : List Hc} {L : List Dem} {on : List Int} {host : Int} : ∀ k s, evTo H L on host k = some s → s.1.length ≤ k ∧ s.2.length = on.length
  | 0, s, h => by rw [evTo] at h; injection h with h; subst h; exact ⟨Nat.le_refl _, rfl⟩
  | k + 1, s, h => by
    rw [evTo] at h
    split at h
    · cases h
    · rename_i s' hs
      have ih := evTo_len k s' hs
      split at h
      · split at h
        · split at h
          · injection h with h; subst h
            simp only [List.length_append, List.length_cons, List.length_nil, List.length_set]
            omega
          · cases h
        · injection h with h; subst h; omega
      · injection h with h; subst h; omega
theorem evac_len (H : List Hc) (L : List Dem) (on : List Int) (host : Int) : ((evacuate H L on host).getD ([], [])).1.length ≤ L.length ∧ ((evacuate H L on host).getD ([], [])).2.length ≤ on.length := by
  unfold evacuate
  split
  · cases h : evTo H L on host L.length with
    | none => exact ⟨Nat.zero_le _, Nat.zero_le _⟩
    | some s => have := evTo_len _ s h; simp only [Option.getD_some]; omega
  · exact ⟨Nat.zero_le _, Nat.zero_le _⟩
theorem assign_len (H : List Hc) (L : List Dem) : ((assign H L).getD []).length ≤ L.length := by
  unfold assign
  split
  · exact Nat.zero_le _
  · cases h : asg H L L.length [] with
    | none => exact Nat.zero_le _
    | some q => have := asg_len _ _ q (by simp) h; simp only [Option.getD_some]; omega
set_option maxHeartbeats 8000000 in
theorem tells_any (A : Option Addr) (n cap : Nat) (A2 : Option Addr) (n2 cap2 : Nat) (A3 : Option Addr) (n3 cap3 : Nat) (A4 : Option Addr) (n4 cap4 : Nat) (most host : Int) (H : List Hc) (L : List Dem) (on no : List Int) (d : Dem) (w : World)
    (hh : Sl 3 hcC w A n H) (hl : Sl 4 demC w A2 n2 L) (ho : Sl 1 inC w A3 n3 on) (hno : Sl 1 inC w A4 n4 no) (hA2 : A2 = none → n2 = 0) (hA3 : A3 = none → n3 = 0) (hn : (n : Int) ≤ 6) (hn2 : (n2 : Int) ≤ 16) (hn3 : (n3 : Int) ≤ 1000000) (hn4 : (n4 : Int) ≤ 1000000) (hcap2 : n2 ≤ cap2) :
    Calls Try.prog 20 #[.slice A n cap, .slice A2 n2 cap2, .slice A3 n3 cap3, .agg #[.int .i64 d.r, .int .i64 d.l, .int .i64 d.c, .int .i64 d.g], .slice A4 n4 cap4, .int .i64 most, .int .i64 host] w fun e w' => e = .returned (.bool true) ∧ Held w w' := by
  have HB := Lib.hid (And.intro (rebalance_len H L on most) (And.intro (evac_len H L on host) (assign_len H L)))
  rw [hl.1, ho.1] at HB
  have C1 := Lib.hid (fun w' (q : Held w w') => spread_any A n cap A2 n2 cap2 A3 n3 cap3 H L on w' (hh.held q) (hl.held q) (ho.held q))
  have C2 := Lib.hid (fun w' (q : Held w w') => spread_ref A n cap A2 n2 cap2 A3 n3 cap3 H L on w' (hh.held q) (hl.held q) (ho.held q))
  have C3 := Lib.hid (fun w' (q : Held w w') => choose_any A n cap A2 n2 cap2 A3 n3 cap3 A4 n4 cap4 H L on no d w' (hh.held q) (hl.held q) (ho.held q) (hno.held q) hn4)
  have C4 := Lib.hid (fun w' (q : Held w w') => choose_ref A n cap A2 n2 cap2 A3 n3 cap3 A4 n4 cap4 H L on no d w' (hh.held q) (hl.held q) (ho.held q) (hno.held q) hn4)
  have C5 := Lib.hid (fun w' (q : Held w w') => assign_any A n cap A2 n2 cap2 H L w' (hh.held q) (hl.held q))
  have C6 := Lib.hid (fun w' (q : Held w w') => assign_ref A n cap A2 n2 cap2 H L w' (hh.held q) (hl.held q) hcap2)
  have C7 := Lib.hid (fun w' (q : Held w w') => improve_any A n cap A2 n2 cap2 A3 n3 cap3 H L on w' (hh.held q) (hl.held q) (ho.held q) hA3 hn3 (by omega))
  have C8 := Lib.hid (fun w' (q : Held w w') => improve_ref A n cap A2 n2 cap2 A3 n3 cap3 H L on w' (hh.held q) (hl.held q) (ho.held q))
  have C9 := Lib.hid (fun w' (q : Held w w') => rebalance_any A n cap A2 n2 cap2 A3 n3 cap3 most H L on w' (hh.held q) (hl.held q) (ho.held q) hA3)
  have C10 := Lib.hid (fun w' (q : Held w w') => rebalance_ref A n cap A2 n2 cap2 A3 n3 cap3 most H L on w' (hh.held q) (hl.held q) (ho.held q))
  have C11 := Lib.hid (fun w' (q : Held w w') => evac_any A n cap A2 n2 cap2 A3 n3 cap3 host H L on w' (hh.held q) (hl.held q) (ho.held q) hA2 hA3)
  have C12 := Lib.hid (fun w' (q : Held w w') => evac_ref A n cap A2 n2 cap2 A3 n3 cap3 host H L on w' (hh.held q) (hl.held q) (ho.held q))
  have C13 := Lib.hid (fun m c u w' (q : Held w w') => load_any m c u A2 n2 cap2 L w' (hl.held q))
  have C14 := Lib.hid (fun m c u w' (q : Held w w') => load_ref_any m c u A2 n2 cap2 L w' (hl.held q) (by omega))
  have HH := Lib.hid hh
  clear hl ho hno hA2 hA3
  obtain ⟨⟨s1, s2⟩, h1⟩ : ∃ p, spread H L on = p := ⟨_, rfl⟩
  obtain ⟨⟨t1, t2⟩, h2⟩ : ∃ p, choose H L on d no = p := ⟨_, rfl⟩
  obtain ⟨as_, h3⟩ : ∃ p, assign H L = p := ⟨_, rfl⟩
  obtain ⟨⟨mv, mb⟩, h4⟩ : ∃ p, improve H L on = p := ⟨_, rfl⟩
  obtain ⟨⟨rm, ri⟩, h5⟩ : ∃ p, rebalance H L on most = p := ⟨_, rfl⟩
  obtain ⟨ev, h6⟩ : ∃ p, evacuate H L on host = p := ⟨_, rfl⟩
  rw [h1] at C1 C2
  rw [h2] at C3 C4
  rw [h3] at C5 C6 HB
  rw [h4] at C7 C8
  rw [h5] at C9 C10 HB
  rw [h6] at C11 C12 HB
  simp only at C1 C2 C3 C4 C7 C8
  obtain ⟨ab, hab⟩ : ∃ b, as_.isSome = b := ⟨_, rfl⟩
  obtain ⟨al, hal⟩ : ∃ l, as_.getD [] = l := ⟨_, rfl⟩
  obtain ⟨eb, heb⟩ : ∃ b, ev.isSome = b := ⟨_, rfl⟩
  obtain ⟨⟨em, ei⟩, hel⟩ : ∃ l, ev.getD ([], []) = l := ⟨_, rfl⟩
  unfold AsTo at C5 C6
  unfold EvTo at C11 C12
  unfold RbTo at C9 C10
  rw [hab, hal] at C5 C6
  rw [heb, hel] at C11 C12
  rw [hal, hel] at HB
  simp only at C9 C10 C11 C12 HB
  clear h1 h2 h3 h4 h5 h6 hab hal heb hel
  have q1 : (s1 != s1) = false := by simp
  have q2 : (s2 != s2) = false := by simp
  have q3 : (t1 != t1) = false := by simp
  have q4 : (t2 != t2) = false := by simp
  have q5 : (ab != ab) = false := by simp
  have q6 : (mb != mb) = false := by simp
  have q7 : (eb == eb) = true := by simp
  have q8 := run_neq_mv (x := mv) (y := mv) (q := true) (by simp)
  by_cases h0 : (0 : Int) < n
  · obtain ⟨b, off, c, rfl, lb, hc, x0, x1, x2⟩ := Sl.at3 HH.out (Held.refl w) (k := 0) (by omega)
    obtain ⟨cm, cc, cu⟩ := c
    simp only [Nat.zero_mul, Nat.add_zero] at x0 x1 x2
    have M1 := Lib.hid (((Mem.start w).alloc #[.int .i64 d.r, .int .i64 d.l, .int .i64 d.c, .int .i64 d.g] 43).alloc' (b := w.heap.size + 1) (by simp) #[.int .i64 cm, .int .i64 cc, .bool cu] 47)
    clear hc
    go_enter Try.func20, Try.ntmps20
    go_wp2_with (first | (go_at_call 23; refine (C1.out _ M1.out.held).mono ?_; rintro e w1 ⟨rfl, k1⟩; have M2 := Lib.hid (M1.out.keep k1)) | (go_at_call 38; refine (C2.out _ M2.out.held).mono ?_; rintro e w2 ⟨rfl, k2⟩; have M3 := Lib.hid (M2.out.keep k2); obtain ⟨⟨z0, z1, z2, z3⟩, _, _⟩ := M3.out.box4 0 rfl) | (go_at_call 16; refine (C3.out _ M3.out.held).mono ?_; rintro e w3 ⟨rfl, k3⟩; have M4 := Lib.hid (M3.out.keep k3); clear z0 z1 z2 z3; obtain ⟨⟨z0, z1, z2, z3⟩, _, _⟩ := M4.out.box4 0 rfl) | (go_at_call 39; refine (C4.out _ M4.out.held).mono ?_; rintro e w4 ⟨rfl, k4⟩; have M5 := Lib.hid (M4.out.keep k4); clear z0 z1 z2 z3) | (go_at_call 11; refine (C5.out _ M5.out.held).mono ?_; rintro e w5 ⟨A5, n5, c5, rfl, S5, _, _, k5⟩; have M6 := Lib.hid (M5.out.keep k5); have HS5 := Lib.hid S5; clear S5) | (go_at_call 21; refine (C6.out _ M6.out.held).mono ?_; rintro e w6 ⟨A6, n6, c6, rfl, S6, _, _, k6⟩; have M7 := Lib.hid (M6.out.keep k6); have HS6 := Lib.hid S6; have K5 := Lib.hid k6; clear S6) | (go_at_call 24; refine (C7.out _ M7.out.held).mono ?_; rintro e w7 ⟨rfl, k7⟩; have M8 := Lib.hid ((M7.out.keep k7).alloc #[.int .i64 mv.g, .int .i64 mv.f, .int .i64 mv.t] 37); have K6 := Lib.hid (k7.alloc (.cells #[.int .i64 mv.g, .int .i64 mv.f, .int .i64 mv.t] 37))) | (go_at_call 40; refine (C8.out _ M8.out.held).mono ?_; rintro e w8 ⟨rfl, k8⟩; have M9 := Lib.hid ((M8.out.keep k8).alloc #[.int .i64 mv.g, .int .i64 mv.f, .int .i64 mv.t] 37); have K7 := Lib.hid (K6.out.step (k8.alloc (.cells #[.int .i64 mv.g, .int .i64 mv.f, .int .i64 mv.t] 37)))) | (go_at_call 22; refine (C9.out _ M9.out.held).mono ?_; rintro e w9 ⟨A9, n9, c9, B9, m9, d9, rfl, S9, T9, k9⟩; have M10 := Lib.hid (M9.out.keep k9); have HS9 := Lib.hid (And.intro S9 T9); have K9 := Lib.hid (K7.out.step k9); clear S9 T9) | (go_at_call 41; refine (C10.out _ M10.out.held).mono ?_; rintro e w10 ⟨A10, n10, c10, B10, m10, d10, rfl, S10, T10, k10⟩; have M11 := Lib.hid (M10.out.keep k10); have HS10 := Lib.hid (And.intro S10 T10); have K10 := Lib.hid (K9.out.step k10); clear S10 T10) | (go_at_call 14; refine (C11.out _ M11.out.held).mono ?_; rintro e w11 ⟨A11, n11, c11, B11, m11, d11, rfl, S11, T11, k11⟩; have M12 := Lib.hid (M11.out.keep k11); have HS11 := Lib.hid (And.intro S11 T11); have K11 := Lib.hid (K10.out.step k11); clear S11 T11) | (go_at_call 42; refine (C12.out _ M12.out.held).mono ?_; rintro e w12 ⟨A12, n12, c12, B12, m12, d12, rfl, S12, T12, k12⟩; have M13 := Lib.hid (M12.out.keep k12); have HS12 := Lib.hid (And.intro S12 T12); have K12 := Lib.hid (K11.out.step k12); clear S12 T12))
    have E5 := Lib.hid (HS5.out.held (K5.out.step K12.out))
    have E6 := Lib.hid (HS6.out.held K12.out)
    have E9 := Lib.hid (And.intro (HS9.out.1.held (k10.step (k11.step k12))) (HS9.out.2.held (k10.step (k11.step k12))))
    have E10 := Lib.hid (And.intro (HS10.out.1.held (k11.step k12)) (HS10.out.2.held (k11.step k12)))
    have E11 := Lib.hid (And.intro (HS11.out.1.held k12) (HS11.out.2.held k12))
    obtain ⟨⟨z0, z1, z2⟩, _, zlt⟩ := M13.out.box3 1 rfl
    obtain ⟨⟨y0, y1, y2⟩, _, ylt⟩ := M13.out.box3 2 rfl
    obtain ⟨⟨x3, x4, x5⟩, _, xlt⟩ := M13.out.box3 3 rfl
    have r0 := cell_regrown z0
    have r1 := cell_regrown z1
    have r2 := cell_regrown z2
    have r3 := cell_regrown y0
    have r4 := cell_regrown y1
    have r5 := cell_regrown y2
    have r6 := cell_regrown x3
    have r7 := cell_regrown x4
    have r8 := cell_regrown x5
    have cA := Lib.hid fun dd os => Calls.regrown_of (d := dd) (os := os) (C13.out cm cc cu (grow (redrawn w12 dd) os) (M13.out.held.step (below_regrown w12 dd os)))
    have cB := Lib.hid fun dd os => Calls.regrown_of (d := dd) (os := os) (C14.out cm cc cu (grow (redrawn w12 dd) os) (M13.out.held.step (below_regrown w12 dd os)))
    have cC := Lib.hid fun dd os => Calls.regrown_of (d := dd) (os := os) (sameI_any A5 n5 c5 A6 n6 c6 al (grow (redrawn w12 dd) os) (E5.out.held (below_regrown w12 dd os)) (E6.out.held (below_regrown w12 dd os)) (by have := E5.out.1; have := HB.out.2.2; omega))
    obtain ⟨ld, hld⟩ : ∃ ld, load ⟨cm, cc, cu⟩ L = ld := ⟨_, rfl⟩
    rw [hld] at cA cB
    have q9 : (ld != ld) = false := by simp
    clear hld z0 z1 z2 y0 y1 y2 x3 x4 x5
    refine wp_region_quiet_below (by kernel_rfl) (by kernel_rfl) ?_
    repeat (go_big_quiet_step (first | (go_at_call 25; exact cA.out _ _) | (go_at_call 43; exact cB.out _ _) | (go_at_call 15; exact cC.out _ _)))
    refine wpQuiet_nil ?_
    intro w13 hw'
    obtain ⟨⟨dq, osq⟩, hw''⟩ := hw'
    have h13 : Held w12 w13 := by rw [hw'']; exact below_regrown _ dq osq
    clear hw'' cA cB cC r0 r1 r2 r3 r4 r5 r6 r7 r8
    have F9 := Lib.hid (fun w' (q : Held w13 w') => sameM_any A9 n9 c9 A10 n10 c10 rm w' (E9.out.1.held (h13.step q)) (E10.out.1.held (h13.step q)) (by have := E9.out.1.1; have := HB.out.1.1; omega))
    have G9 := Lib.hid (fun w' (q : Held w13 w') => sameI_any B9 m9 d9 B10 m10 d10 ri w' (E9.out.2.held (h13.step q)) (E10.out.2.held (h13.step q)) (by have := E9.out.2.1; have := HB.out.1.2; omega))
    have F11 := Lib.hid (fun w' (q : Held w13 w') => sameM_any A11 n11 c11 A12 n12 c12 em w' (E11.out.1.held (h13.step q)) (HS12.out.1.held (h13.step q)) (by have := E11.out.1.1; have := HB.out.2.1.1; omega))
    have G11 := Lib.hid (fun w' (q : Held w13 w') => sameI_any B11 m11 d11 B12 m12 d12 ei w' (E11.out.2.held (h13.step q)) (HS12.out.2.held (h13.step q)) (by have := E11.out.2.1; have := HB.out.2.1.2; omega))
    go_wp2_with fail
    refine (F9.out _ (Held.refl _)).mono ?_
    rintro e w14 ⟨rfl, k14⟩
    go_wp2_with fail
    refine (G9.out _ k14).mono ?_
    rintro e w15 ⟨rfl, k15⟩
    go_wp2_with fail
    refine (F11.out _ (k14.step k15)).mono ?_
    rintro e w16 ⟨rfl, k16⟩
    go_wp2_with fail
    refine (G11.out _ ((k14.step k15).step k16)).mono ?_
    rintro e w17 ⟨rfl, k17⟩
    go_wp2
    go_ret
    exact ⟨rfl, M13.out.held.step (h13.step (((k14.step k15).step k16).step k17))⟩
  · have M1 := Lib.hid (((Mem.start w).alloc #[.int .i64 d.r, .int .i64 d.l, .int .i64 d.c, .int .i64 d.g] 43).alloc' (b := w.heap.size + 1) (by simp) #[.int .i64 0, .int .i64 0, .bool false] 47)
    obtain ⟨cm, hcm⟩ : ∃ x : Int, x = 0 := ⟨_, rfl⟩
    obtain ⟨cc, hcc⟩ : ∃ x : Int, x = 0 := ⟨_, rfl⟩
    obtain ⟨cu, hcu⟩ : ∃ x : Bool, x = false := ⟨_, rfl⟩
    subst hcm hcc hcu
    go_enter Try.func20, Try.ntmps20
    go_wp2_with (first | (go_at_call 23; refine (C1.out _ M1.out.held).mono ?_; rintro e w1 ⟨rfl, k1⟩; have M2 := Lib.hid (M1.out.keep k1)) | (go_at_call 38; refine (C2.out _ M2.out.held).mono ?_; rintro e w2 ⟨rfl, k2⟩; have M3 := Lib.hid (M2.out.keep k2); obtain ⟨⟨z0, z1, z2, z3⟩, _, _⟩ := M3.out.box4 0 rfl) | (go_at_call 16; refine (C3.out _ M3.out.held).mono ?_; rintro e w3 ⟨rfl, k3⟩; have M4 := Lib.hid (M3.out.keep k3); clear z0 z1 z2 z3; obtain ⟨⟨z0, z1, z2, z3⟩, _, _⟩ := M4.out.box4 0 rfl) | (go_at_call 39; refine (C4.out _ M4.out.held).mono ?_; rintro e w4 ⟨rfl, k4⟩; have M5 := Lib.hid (M4.out.keep k4); clear z0 z1 z2 z3) | (go_at_call 11; refine (C5.out _ M5.out.held).mono ?_; rintro e w5 ⟨A5, n5, c5, rfl, S5, _, _, k5⟩; have M6 := Lib.hid (M5.out.keep k5); have HS5 := Lib.hid S5; clear S5) | (go_at_call 21; refine (C6.out _ M6.out.held).mono ?_; rintro e w6 ⟨A6, n6, c6, rfl, S6, _, _, k6⟩; have M7 := Lib.hid (M6.out.keep k6); have HS6 := Lib.hid S6; have K5 := Lib.hid k6; clear S6) | (go_at_call 24; refine (C7.out _ M7.out.held).mono ?_; rintro e w7 ⟨rfl, k7⟩; have M8 := Lib.hid ((M7.out.keep k7).alloc #[.int .i64 mv.g, .int .i64 mv.f, .int .i64 mv.t] 37); have K6 := Lib.hid (k7.alloc (.cells #[.int .i64 mv.g, .int .i64 mv.f, .int .i64 mv.t] 37))) | (go_at_call 40; refine (C8.out _ M8.out.held).mono ?_; rintro e w8 ⟨rfl, k8⟩; have M9 := Lib.hid ((M8.out.keep k8).alloc #[.int .i64 mv.g, .int .i64 mv.f, .int .i64 mv.t] 37); have K7 := Lib.hid (K6.out.step (k8.alloc (.cells #[.int .i64 mv.g, .int .i64 mv.f, .int .i64 mv.t] 37)))) | (go_at_call 22; refine (C9.out _ M9.out.held).mono ?_; rintro e w9 ⟨A9, n9, c9, B9, m9, d9, rfl, S9, T9, k9⟩; have M10 := Lib.hid (M9.out.keep k9); have HS9 := Lib.hid (And.intro S9 T9); have K9 := Lib.hid (K7.out.step k9); clear S9 T9) | (go_at_call 41; refine (C10.out _ M10.out.held).mono ?_; rintro e w10 ⟨A10, n10, c10, B10, m10, d10, rfl, S10, T10, k10⟩; have M11 := Lib.hid (M10.out.keep k10); have HS10 := Lib.hid (And.intro S10 T10); have K10 := Lib.hid (K9.out.step k10); clear S10 T10) | (go_at_call 14; refine (C11.out _ M11.out.held).mono ?_; rintro e w11 ⟨A11, n11, c11, B11, m11, d11, rfl, S11, T11, k11⟩; have M12 := Lib.hid (M11.out.keep k11); have HS11 := Lib.hid (And.intro S11 T11); have K11 := Lib.hid (K10.out.step k11); clear S11 T11) | (go_at_call 42; refine (C12.out _ M12.out.held).mono ?_; rintro e w12 ⟨A12, n12, c12, B12, m12, d12, rfl, S12, T12, k12⟩; have M13 := Lib.hid (M12.out.keep k12); have HS12 := Lib.hid (And.intro S12 T12); have K12 := Lib.hid (K11.out.step k12); clear S12 T12))
    have E5 := Lib.hid (HS5.out.held (K5.out.step K12.out))
    have E6 := Lib.hid (HS6.out.held K12.out)
    have E9 := Lib.hid (And.intro (HS9.out.1.held (k10.step (k11.step k12))) (HS9.out.2.held (k10.step (k11.step k12))))
    have E10 := Lib.hid (And.intro (HS10.out.1.held (k11.step k12)) (HS10.out.2.held (k11.step k12)))
    have E11 := Lib.hid (And.intro (HS11.out.1.held k12) (HS11.out.2.held k12))
    obtain ⟨⟨z0, z1, z2⟩, _, zlt⟩ := M13.out.box3 1 rfl
    obtain ⟨⟨y0, y1, y2⟩, _, ylt⟩ := M13.out.box3 2 rfl
    obtain ⟨⟨x3, x4, x5⟩, _, xlt⟩ := M13.out.box3 3 rfl
    have r0 := cell_regrown z0
    have r1 := cell_regrown z1
    have r2 := cell_regrown z2
    have r3 := cell_regrown y0
    have r4 := cell_regrown y1
    have r5 := cell_regrown y2
    have r6 := cell_regrown x3
    have r7 := cell_regrown x4
    have r8 := cell_regrown x5
    have cA := Lib.hid fun dd os => Calls.regrown_of (d := dd) (os := os) (C13.out 0 0 false (grow (redrawn w12 dd) os) (M13.out.held.step (below_regrown w12 dd os)))
    have cB := Lib.hid fun dd os => Calls.regrown_of (d := dd) (os := os) (C14.out 0 0 false (grow (redrawn w12 dd) os) (M13.out.held.step (below_regrown w12 dd os)))
    have cC := Lib.hid fun dd os => Calls.regrown_of (d := dd) (os := os) (sameI_any A5 n5 c5 A6 n6 c6 al (grow (redrawn w12 dd) os) (E5.out.held (below_regrown w12 dd os)) (E6.out.held (below_regrown w12 dd os)) (by have := E5.out.1; have := HB.out.2.2; omega))
    obtain ⟨ld, hld⟩ : ∃ ld, load ⟨0, 0, false⟩ L = ld := ⟨_, rfl⟩
    rw [hld] at cA cB
    have q9 : (ld != ld) = false := by simp
    clear hld z0 z1 z2 y0 y1 y2 x3 x4 x5
    refine wp_region_quiet_below (by kernel_rfl) (by kernel_rfl) ?_
    repeat (go_big_quiet_step (first | (go_at_call 25; exact cA.out _ _) | (go_at_call 43; exact cB.out _ _) | (go_at_call 15; exact cC.out _ _)))
    refine wpQuiet_nil ?_
    intro w13 hw'
    obtain ⟨⟨dq, osq⟩, hw''⟩ := hw'
    have h13 : Held w12 w13 := by rw [hw'']; exact below_regrown _ dq osq
    clear hw'' cA cB cC r0 r1 r2 r3 r4 r5 r6 r7 r8
    have F9 := Lib.hid (fun w' (q : Held w13 w') => sameM_any A9 n9 c9 A10 n10 c10 rm w' (E9.out.1.held (h13.step q)) (E10.out.1.held (h13.step q)) (by have := E9.out.1.1; have := HB.out.1.1; omega))
    have G9 := Lib.hid (fun w' (q : Held w13 w') => sameI_any B9 m9 d9 B10 m10 d10 ri w' (E9.out.2.held (h13.step q)) (E10.out.2.held (h13.step q)) (by have := E9.out.2.1; have := HB.out.1.2; omega))
    have F11 := Lib.hid (fun w' (q : Held w13 w') => sameM_any A11 n11 c11 A12 n12 c12 em w' (E11.out.1.held (h13.step q)) (HS12.out.1.held (h13.step q)) (by have := E11.out.1.1; have := HB.out.2.1.1; omega))
    have G11 := Lib.hid (fun w' (q : Held w13 w') => sameI_any B11 m11 d11 B12 m12 d12 ei w' (E11.out.2.held (h13.step q)) (HS12.out.2.held (h13.step q)) (by have := E11.out.2.1; have := HB.out.2.1.2; omega))
    go_wp2_with fail
    refine (F9.out _ (Held.refl _)).mono ?_
    rintro e w14 ⟨rfl, k14⟩
    go_wp2_with fail
    refine (G9.out _ k14).mono ?_
    rintro e w15 ⟨rfl, k15⟩
    go_wp2_with fail
    refine (F11.out _ (k14.step k15)).mono ?_
    rintro e w16 ⟨rfl, k16⟩
    go_wp2_with fail
    refine (G11.out _ ((k14.step k15).step k16)).mono ?_
    rintro e w17 ⟨rfl, k17⟩
    go_wp2
    go_ret
    exact ⟨rfl, M13.out.held.step (h13.step (((k14.step k15).step k16).step k17))⟩
end Ba
end Go.Proofs.Ytmmjofdienoobaa
