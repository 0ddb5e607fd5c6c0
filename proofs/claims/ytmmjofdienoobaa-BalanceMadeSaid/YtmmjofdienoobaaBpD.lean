/-
  BalanceMade: the walk of the law.
-/
import Derived.Test.YtmmjofdienoobaaBpA
set_option linter.unusedVariables false
set_option linter.unusedSimpArgs false
set_option maxRecDepth 100000
namespace Go.Proofs.Ytmmjofdienoobaa
open Go.RowKit Go.BigFrame Go.Sort
namespace Ba
open Ad Adm
set_option maxHeartbeats 2000000 in
theorem made_walk (A : Option Addr) (n cap : Nat) (l1 : List Int) (B : Option Addr) (m c : Nat) (l2 : List Int) (x most host : Int) (hx : (Lit.int .i64 x).wf = true) (hmo : (Lit.int .i64 most).wf = true) (hho : (Lit.int .i64 host).wf = true) (w : World) (h1 : InN w A n cap l1) (h2 : InN w B m c l2) :
    Calls Try.prog 7 #[.slice A n cap, .slice B m c, .int .i64 x, .int .i64 most, .int .i64 host] w fun e w' => e = .returned (.bool true) ∧ Held w w' := by
  have HAW := Lib.hid awake_any
  by_cases hout : (n : Int) < 1 ∨ 4 < (n : Int) ∨ 6 < (m : Int)
  · clear h1 h2
    by_cases g1 : (n : Int) < 1
    · go_enter Try.func7, Try.ntmps7
      go_wp2_with (go_at_call 9; refine (HAW.out _).mono ?_; rintro e w2 ⟨rfl, h2⟩)
      go_ret
      exact ⟨rfl, h2⟩
    by_cases g2 : (4 : Int) < n
    · go_enter Try.func7, Try.ntmps7
      go_wp2_with (go_at_call 9; refine (HAW.out _).mono ?_; rintro e w2 ⟨rfl, h2⟩)
      go_ret
      exact ⟨rfl, h2⟩
    have g3 : (6 : Int) < m := by omega
    go_enter Try.func7, Try.ntmps7
    go_wp2_with (go_at_call 9; refine (HAW.out _).mono ?_; rintro e w2 ⟨rfl, h2⟩)
    go_ret
    exact ⟨rfl, h2⟩
  · have g1 : ¬ (n : Int) < 1 := by omega
    have g2 : ¬ (4 : Int) < n := by omega
    have g3 : ¬ (6 : Int) < m := by omega
    have HPR := Lib.hid (fun w' (q : Held w w') => problem_any A n cap B m c l1 l2 w' (h1.1.1.held q) (h2.1.1.held q) (by omega) (by omega))
    obtain ⟨H, hH⟩ : ∃ H, l1.map hostOf = H := ⟨_, rfl⟩
    obtain ⟨D, hD⟩ : ∃ D, l2.map demOf = D := ⟨_, rfl⟩
    have hHl : H.length = n := by rw [← hH, List.length_map]; exact h1.1.1.1
    have hDl : D.length = m := by rw [← hD, List.length_map]; exact h2.1.1.1
    rw [hH, hD] at HPR
    unfold PrTo at HPR
    rw [hHl, hDl] at HPR
    have HHD := Lib.hid (And.intro hHl hDl)
    have bx := Rw.bd_i64 hx
    have bm := Rw.bd_i64 hmo
    have bh := Rw.bd_i64 hho
    have HR1 := Lib.hid (fun w' => Mk.round_any x 5 bx.1 bx.2 (by omega) (by omega) w')
    have HR2 := Lib.hid (fun w' => Mk.round_any most 12 bm.1 bm.2 (by omega) (by omega) w')
    have HR3 := Lib.hid (fun w' => Mk.round_any host 5 bh.1 bh.2 (by omega) (by omega) w')
    obtain ⟨r1, hr1⟩ : ∃ r, Mk.round x 5 = r := ⟨_, rfl⟩
    obtain ⟨r2, hr2⟩ : ∃ r, Mk.round most 12 = r := ⟨_, rfl⟩
    obtain ⟨r3, hr3⟩ : ∃ r, Mk.round host 5 = r := ⟨_, rfl⟩
    rw [hr1] at HR1
    rw [hr2] at HR2
    rw [hr3] at HR3
    have HPO := Lib.hid (fun (b : Nat) w' (hs : Sl 1 inC w' (some ⟨b, 0, none⟩) 1 [x]) => show Calls Try.prog 10 #[.slice none 0 0, .slice (some ⟨b, 0, none⟩) 1 1] w' (PrTo [] [demOf x] w') from problem_any none 0 0 (some ⟨b, 0, none⟩) 1 1 [] [x] w' (Sl.nil w' none) hs (by omega) (by omega))
    obtain ⟨d, hd⟩ : ∃ d, demOf x = d := ⟨_, rfl⟩
    rw [hd] at HPO
    have HAS := Lib.hid (fun (A7 : Option Addr) c7 (A8 : Option Addr) c8 w' (q1 : Sl 3 hcC w' A7 n H) (q2 : Sl 4 demC w' A8 m D) (q3 : m ≤ c8) => assign_ref A7 n c7 A8 m c8 H D w' q1 q2 q3)
    have HLE := assign_len H D
    obtain ⟨a, ha⟩ : ∃ a, assign H D = a := ⟨_, rfl⟩
    rw [ha] at HAS HLE
    rw [hDl] at HLE
    clear h1 h2 hout hH hD hHl hDl ha hr1 hr2 hr3 hd bx bm bh hx hmo hho
    have HTL := Lib.hid (fun (A7 : Option Addr) c7 (A8 : Option Addr) c8 (A9 : Option Addr) n9 c9 (o : List Int) b w' (q1 : Sl 3 hcC w' A7 n H) (q2 : Sl 4 demC w' A8 m D) (q3 : Sl 1 inC w' A9 n9 o) (q4 : Sl 1 inC w' (some ⟨b, 0, none⟩) 1 [r1]) (q5 : A8 = none → m = 0) (q6 : A9 = none → n9 = 0) (q7 : (n9 : Int) ≤ 1000000) (q8 : m ≤ c8) => tells_any A7 n c7 A8 m c8 A9 n9 c9 (some ⟨b, 0, none⟩) 1 1 r2 r3 H D o [r1] d w' q1 q2 q3 q4 q5 q6 (by omega) (by omega) q7 (by omega) q8)
    go_enter Try.func7, Try.ntmps7
    go_wp2_with fail
    refine (HPR.out _ (Held.refl _)).mono ?_
    rintro e w2 ⟨A7, c7, A8, c8, rfl, s7, s8, hc8, _, n8, k2⟩
    have S7 := Lib.hid s7
    have S8 := Lib.hid s8
    have N8 := Lib.hid n8
    clear s7 s8 n8
    go_wp2_with fail
    refine (HAS.out A7 c7 A8 c8 _ S7.out S8.out hc8).mono ?_
    rintro e w3 ⟨A9, n9, c9, rfl, s9, _, n10, k3⟩
    have S9 := Lib.hid s9
    have N9 := Lib.hid n10
    clear s9 n10
    go_wp2_with fail
    refine (HPO.out _ _ (sl_one (w := w3) rfl x)).mono ?_
    rintro e w5 ⟨A10, c10, B10, d10, rfl, _, s11, _, _, _, k5⟩
    have S11 : Hid (Sl 4 demC w5 B10 1 [d]) := s11
    have K5 := Lib.hid (((Held.refl w3).alloc (.cells #[.int .i64 x] 3)).step k5)
    have hn9 : (n9 : Int) ≤ 1000000 := by have := S9.out.1; omega
    obtain ⟨b, off, dd, rfl, lb, hdd, x0, x1, x2, x3⟩ := Sl.at4 S11.out (Held.refl w5) (k := 0) (by omega)
    obtain rfl : d = dd := by simpa using hdd
    simp only [Nat.zero_mul, Nat.add_zero] at x0 x1 x2 x3
    have H75 := Lib.hid (S7.out.held (k3.step K5.out))
    have H85 := Lib.hid (S8.out.held (k3.step K5.out))
    have H95 := Lib.hid (S9.out.held K5.out)
    have KF := Lib.hid ((k2.step k3).step K5.out)
    have HTX := Lib.hid (fun w' (q : Held w5 w') (hs : Sl 1 inC w' (some ⟨w5.heap.size, 0, none⟩) 1 [r1]) => HTL.out A7 c7 A8 c8 A9 n9 c9 (a.getD []) w5.heap.size w' (H75.out.held q) (H85.out.held q) (H95.out.held q) hs N8.out N9.out hn9 hc8)
    have HCC := Lib.hid (fun w' (q : Held w5 w') => And.intro (q.cell x0) (And.intro (q.cell x1) (And.intro (q.cell x2) (q.cell x3))))
    clear s11 hdd HTL S7 S8 S9 N8 N9 HPO HAS HPR
    go_wp2
    go_region_held3 (fun w' => w'.cell? ⟨b, off, none⟩ = some (.int .i64 d.r) ∧ w'.cell? ⟨b, off + 1, none⟩ = some (.int .i64 d.l) ∧ w'.cell? ⟨b, off + 2, none⟩ = some (.int .i64 d.c) ∧ w'.cell? ⟨b, off + 3, none⟩ = some (.int .i64 d.g))
      (first | exact HCC.out _ (Held.refl _).drew | exact HCC.out _ ((Held.refl _).drew.alloc _) | exact HCC.out _ (by assumption))
      (first | (go_at_call 13; first | (with_reducible refine (HR1.out _).mono ?_) | (with_reducible refine (HR2.out _).mono ?_) | (with_reducible refine (HR3.out _).mono ?_)); (rintro e w6 ⟨rfl, rfl⟩) | (go_at_call 20; refine (HTX.out _ ((Held.refl _).drew.alloc _) (sl_one rfl r1)).mono ?_; rintro e w7 ⟨rfl, h7⟩; have k7 : Held w5 w7 := ((Held.refl _).drew.alloc _).step h7) | (go_at_call 9; refine (HAW.out _).mono ?_; rintro e w8 ⟨rfl, h8⟩; have k8 : Held w5 w8 := k7.step h8))
    all_goals
      go_wp2
      go_ret
      exact ⟨rfl, KF.out.step k8⟩
end Ba
end Go.Proofs.Ytmmjofdienoobaa
