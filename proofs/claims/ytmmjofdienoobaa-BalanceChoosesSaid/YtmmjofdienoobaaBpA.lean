/-
  BalanceAssigns: the walk of the law.
-/
import Derived.Test.YtmmjofdienoobaaBpV
import Derived.Test.YtmmjofdienoobaaOpen40
import Derived.Test.YtmmjofdienoobaaRw
import Derived.Lib.QuietBelow
set_option linter.unusedVariables false
set_option linter.unusedSimpArgs false
set_option maxRecDepth 100000
namespace Go.Proofs.Ytmmjofdienoobaa
open Go.RowKit Go.WideShapes Go.ChangeShapes Go.ChangeAt Go.BigFrame Go.Sort
namespace Ba
open Ad Adm
def i64ok (x : Int) : Prop := -9223372036854775808 ≤ x ∧ x ≤ 9223372036854775807
/-- Numbers that came in. -/
def InN (w : World) (A : Option Addr) (n cap : Nat) (L : List Int) : Prop := InS 1 inC w A n cap L ∧ ∀ x ∈ L, i64ok x
theorem rd_num {w : World} {d : Nat} {cs : List Value} (h : Rds Try.prog w (1 + d) 3 cs) : ∃ x : Int, cs = inC x ∧ i64ok x := by
  have hp : parts Try.prog 3 = none := by kernel_rfl
  rw [show 1 + d = d + 1 by omega] at h
  unfold Rds at h
  rw [hp, Try.underlying3] at h
  obtain ⟨z, hz, hw⟩ := h
  exact ⟨z, hz, Rw.bd_i64 hw⟩
theorem in_nums {H : Type} {enc : TypeId × Value → H} {w : World} {r : Reach} {b0 : Nat} {base : Nat} {spare : Nat → Bool} {held : Bool} {v : Value} {d : DataW H} {p : List MemPlace}
    (hv : Value.okWide Try.prog w r b0 22 v) (h : DataW.Trod enc Try.prog w base spare held 22 v d p) :
    ∃ A len cap L, v = .slice A len cap ∧ InN w A len cap L := by
  obtain ⟨A, len, cap, rfl⟩ := okWide_slice Try.underlying22 hv
  obtain ⟨fuel, hf⟩ := h
  obtain ⟨A', len', cap', e, hs⟩ := leaf_slice (n := 9) Try.underlying22 ⟨10, by omega, rds_of_trod 10 _ _ _ _ hf⟩
  injection e with e1 e2 e3
  subst e1 e2 e3
  obtain ⟨L, hL, hg⟩ := hs.sl inC i64ok (s := 1) (by kernel_rfl) (by decide) (fun cs hr => rd_num (d := 8) hr)
  exact ⟨A, len, cap, L, rfl, ⟨hL, hs.1, hs.2.1, fun h => by have := hs.2.2.1 h; have := hs.1; omega⟩, hg⟩
theorem lexle_lt {q o : List Int} (h : lexle q o) {j : Nat} {x y : Int} (ht : q.take j = o.take j) (hx : q[j]? = some x) (hy : o[j]? = some y) (hne : x ≠ y) : x < y := by
  rcases h with rfl | ⟨i, x', y', h1, h2, h3, h4⟩
  · rw [hx] at hy; injection hy with hy; exact absurd hy hne
  · rcases Nat.lt_trichotomy i j with c | c | c
    · have := congrArg (fun l => l[i]?) ht
      simp only [List.getElem?_take, if_pos c] at this
      rw [h2, h3] at this
      injection this with this
      omega
    · subst c
      rw [hx] at h2; rw [hy] at h3
      injection h2 with h2; injection h3 with h3
      omega
    · have := congrArg (fun l => l[j]?) h1
      simp only [List.getElem?_take, if_pos c] at this
      rw [hx, hy] at this
      injection this with this
      exact absurd this hne
theorem ret_tt {a : Bool} (h : a = true) : Ending.returned (.bool a) = .returned (.bool true) := by rw [h]
set_option maxHeartbeats 1000000 in
theorem assigns_walk (A : Option Addr) (n cap : Nat) (l1 : List Int) (B : Option Addr) (m c : Nat) (l2 : List Int) (C : Option Addr) (m3 c3 : Nat) (l3 : List Int) (w : World) (h1 : InN w A n cap l1) (h2 : InN w B m c l2) (h3 : InN w C m3 c3 l3) :
    Calls Try.prog 3 #[.slice A n cap, .slice B m c, .slice C m3 c3] w fun e w' => e = .returned (.bool true) ∧ Held w w' := by
  have HAW := Lib.hid awake_any
  by_cases hout : (n : Int) < 1 ∨ 4 < (n : Int) ∨ 6 < (m : Int) ∨ (m3 : Int) < m
  · clear h1 h2 h3
    by_cases g1 : (n : Int) < 1
    · go_enter Try.func3, Try.ntmps3
      go_wp2_with (go_at_call 9; refine (HAW.out _).mono ?_; rintro e w2 ⟨rfl, h2⟩)
      go_ret
      exact ⟨rfl, h2⟩
    by_cases g2 : (4 : Int) < n
    · go_enter Try.func3, Try.ntmps3
      go_wp2_with (go_at_call 9; refine (HAW.out _).mono ?_; rintro e w2 ⟨rfl, h2⟩)
      go_ret
      exact ⟨rfl, h2⟩
    by_cases g3 : (6 : Int) < m
    · go_enter Try.func3, Try.ntmps3
      go_wp2_with (go_at_call 9; refine (HAW.out _).mono ?_; rintro e w2 ⟨rfl, h2⟩)
      go_ret
      exact ⟨rfl, h2⟩
    have g4 : (m3 : Int) < m := by omega
    go_enter Try.func3, Try.ntmps3
    go_wp2_with (go_at_call 9; refine (HAW.out _).mono ?_; rintro e w2 ⟨rfl, h2⟩)
    go_ret
    exact ⟨rfl, h2⟩
  · have g1 : ¬ (n : Int) < 1 := by omega
    have g2 : ¬ (4 : Int) < n := by omega
    have g3 : ¬ (6 : Int) < m := by omega
    have g4 : ¬ (m3 : Int) < m := by omega
    have HPR := Lib.hid (fun w' (q : Held w w') => problem_any A n cap B m c l1 l2 w' (h1.1.1.held q) (h2.1.1.held q) (by omega) (by omega))
    obtain ⟨H, hH⟩ : ∃ H, l1.map hostOf = H := ⟨_, rfl⟩
    obtain ⟨D, hD⟩ : ∃ D, l2.map demOf = D := ⟨_, rfl⟩
    have hHl : H.length = n := by rw [← hH, List.length_map]; exact h1.1.1.1
    have hDl : D.length = m := by rw [← hD, List.length_map]; exact h2.1.1.1
    rw [hH, hD] at HPR
    unfold PrTo at HPR
    rw [hHl, hDl] at HPR
    have HHD := Lib.hid (And.intro hHl hDl)
    have H3 := Lib.hid h3
    obtain ⟨a, ha⟩ : ∃ a, assign H D = a := ⟨_, rfl⟩
    have HSND := Lib.hid (fun q (h : a = some q) => assign_sound (ha.trans h))
    have HCPL := Lib.hid (fun o (h : place H D o = true) => assign_complete (H := H) (L := D) (o := o) (by rw [hDl]; omega) h)
    rw [ha] at HCPL
    have HA := Lib.hid ha
    clear h1 h2 h3 hout hH hD hHl hDl ha
    have HAS := Lib.hid (fun (A7 : Option Addr) c7 (A8 : Option Addr) c8 w' (q1 : Sl 3 hcC w' A7 n H) (q2 : Sl 4 demC w' A8 m D) => assign_any A7 n c7 A8 m c8 H D w' q1 q2)
    rw [HA.out] at HAS
    have HVA := Lib.hid (fun (A7 : Option Addr) c7 (A8 : Option Addr) c8 (A9 : Option Addr) n9 c9 (o : List Int) w' (q1 : Sl 3 hcC w' A7 n H) (q2 : Sl 4 demC w' A8 m D) (q3 : Sl 1 inC w' A9 n9 o) (hn9 : (n9 : Int) ≤ 1000000) => lawvalid_any A7 n c7 A8 m c8 A9 n9 c9 H D o w' q1 q2 q3 (by omega) (by omega) (by omega) hn9)
    cases a with
    | none =>
      go_enter Try.func3, Try.ntmps3
      go_wp2_with (first | (go_at_call 10; refine (HPR.out _ (Held.refl _)).mono ?_; rintro e w2 ⟨A7, c7, A8, c8, rfl, s7, s8, _, _, _, k2⟩; have S7 := Lib.hid s7; have S8 := Lib.hid s8; clear s7 s8) | (go_at_call 11; refine (HAS.out A7 c7 A8 c8 _ S7.out S8.out).mono ?_; rintro e w3 ⟨A9, n9, c9, rfl, s9, _, _, k3⟩; obtain rfl : n9 = 0 := s9.1.symm; have M3 := Lib.hid ((Mem.start w3).nilRow (e := 3) (s := 1) (f := inC)); have K3 := Lib.hid (k2.step k3); clear s9))
      go_loopw [11, 12] (fun v i wr => ∃ j : Nat, i = .int .i64 j ∧ j ≤ m ∧ Mem w3 wr [.row 3 1 inC w3.heap.size v ((l3.take j).map fun x => Mk.round x n)]) (fun _ i _ => m - (intOf i).toNat)
      case atStart => exact ⟨0, rfl, Nat.zero_le _, M3.out⟩
      case round =>
        obtain ⟨j, rfl, hj, M⟩ := hrel
        have M5 := Lib.hid M
        clear M M3
        by_cases hlt : (j : Int) < m
        · obtain ⟨b, off, x, rfl, lb, hx, x0⟩ := Sl.at1 H3.out.1.1 (K3.out.step M5.out.held) (k := j) (by omega)
          have HN := Lib.hid (mapn (f := fun x => Mk.round x n) hx)
          have hln : ((l3.take j).map fun x => Mk.round x n).length = j := by rw [List.length_map, List.length_take, H3.out.1.1.1]; omega
          have HLN := Lib.hid hln
          have hxb := H3.out.2 x (List.mem_of_getElem? hx)
          have HRD := Lib.hid (fun w' => Mk.round_any x n hxb.1 hxb.2 (by omega) (by omega) w')
          have j0 : ¬ (j : Int) < 0 := by omega
          have j1 : (j : Int) < m3 := by omega
          obtain ⟨y, hy⟩ : ∃ y, Mk.round x n = y := ⟨_, rfl⟩
          simp only [hy] at HN
          rw [hy] at HRD
          clear hln hx hxb hy
          go_wp2_with (first | (go_at_call 13; refine (HRD.out _).mono ?_; rintro e w5 ⟨rfl, rfl⟩) | (at_builtin; refine Mem.wp_app (M5.out.skip _) 0 rfl rfl _ _ _ rfl _ 8 Try.underlying22 info_int rfl (by decide) inC_len inC_one y ⟨wr.heap.size, 0, none⟩ 1 rfl rfl (cells_new _ (by simp) _ _) j HLN.out (by omega) (by decide) ?_; intro g4 cp4 w6 M6; have M7 := Lib.hid M6; clear M6))
          go_roundw
          case rel => exact ⟨j + 1, by go_num, by omega, by rw [HN.out]; exact M7.out⟩
          case measure => (simp [intOf]) <;> omega
        · obtain rfl : m = j := by omega
          have hol : ((l3.take m).map fun x => Mk.round x n).length = m := by rw [List.length_map, List.length_take, H3.out.1.1.1]; omega
          obtain ⟨O, hO⟩ : ∃ O, ((l3.take m).map fun x => Mk.round x n) = O := ⟨_, rfl⟩
          rw [hO] at M5 hol
          obtain ⟨A6, cap6, rfl, _⟩ := (M5.out.row 0 rfl).shape
          rw [hol] at M5 ⊢
          have HSO := Lib.hid (Own.reads inC_len (M5.out.row 0 rfl)).1
          have KX := Lib.hid (k3.step M5.out.held)
          clear hol hO
          have HNP : Hid (place H D O = false) := show _ = _ by
            cases hp : place H D O
            · rfl
            · obtain ⟨q, hq, _⟩ := HCPL.out O hp; cases hq
          have HVO := Lib.hid (HVA.out A7 c7 A8 c8 A6 m cap6 O wr (S7.out.held KX.out) (S8.out.held KX.out) HSO.out (by omega))
          rw [HNP.out] at HVO
          go_wp2_with (first | (go_at_call 12; refine HVO.out.mono ?_; rintro e w8 ⟨rfl, k8⟩) | (go_at_call 9; refine (HAW.out _).mono ?_; rintro e w9 ⟨rfl, k9⟩))
          go_ret
          exact ⟨rfl, ((K3.out.step M5.out.held).step k8).step k9⟩
    | some q =>
      obtain ⟨hps, hql⟩ := HSND.out q rfl
      rw [HHD.out.2] at hql
      have HPS := Lib.hid hps
      have HQL := Lib.hid hql
      clear hps hql
      go_enter Try.func3, Try.ntmps3
      go_wp2_with (first | (go_at_call 10; refine (HPR.out _ (Held.refl _)).mono ?_; rintro e w2 ⟨A7, c7, A8, c8, rfl, s7, s8, _, _, _, k2⟩; have S7 := Lib.hid s7; have S8 := Lib.hid s8; clear s7 s8) | (go_at_call 11; refine (HAS.out A7 c7 A8 c8 _ S7.out S8.out).mono ?_; rintro e w3 ⟨A9, n9, c9, rfl, s9, _, _, k3⟩; obtain rfl : n9 = m := s9.1.symm.trans HQL.out; have S9 := Lib.hid (show Sl 1 inC w3 A9 n9 q from s9); clear s9) | (go_at_call 12; refine (HVA.out A7 c7 A8 c8 A9 n9 c9 q _ (S7.out.held k3) (S8.out.held k3) S9.out (by omega)).mono ?_; rw [HPS.out]; rintro e w4 ⟨rfl, k4⟩; have M3 := Lib.hid ((Mem.start w4).nilRow (e := 3) (s := 1) (f := inC)); have K3 := Lib.hid ((k2.step k3).step k4)))
      go_loopw [11, 12] (fun v i wr => ∃ j : Nat, i = .int .i64 j ∧ j ≤ n9 ∧ Mem w4 wr [.row 3 1 inC w4.heap.size v ((l3.take j).map fun x => Mk.round x n)]) (fun _ i _ => n9 - (intOf i).toNat)
      case atStart => exact ⟨0, rfl, Nat.zero_le _, M3.out⟩
      case round =>
        obtain ⟨j, rfl, hj, M⟩ := hrel
        have M5 := Lib.hid M
        clear M M3
        by_cases hlt : (j : Int) < n9
        · obtain ⟨b, off, x, rfl, lb, hx, x0⟩ := Sl.at1 H3.out.1.1 (K3.out.step M5.out.held) (k := j) (by omega)
          have HN := Lib.hid (mapn (f := fun x => Mk.round x n) hx)
          have hln : ((l3.take j).map fun x => Mk.round x n).length = j := by rw [List.length_map, List.length_take, H3.out.1.1.1]; omega
          have HLN := Lib.hid hln
          have hxb := H3.out.2 x (List.mem_of_getElem? hx)
          have HRD := Lib.hid (fun w' => Mk.round_any x n hxb.1 hxb.2 (by omega) (by omega) w')
          have j0 : ¬ (j : Int) < 0 := by omega
          have j1 : (j : Int) < m3 := by omega
          obtain ⟨y, hy⟩ : ∃ y, Mk.round x n = y := ⟨_, rfl⟩
          simp only [hy] at HN
          rw [hy] at HRD
          clear hln hx hxb hy
          go_wp2_with (first | (go_at_call 13; refine (HRD.out _).mono ?_; rintro e w5 ⟨rfl, rfl⟩) | (at_builtin; refine Mem.wp_app (M5.out.skip _) 0 rfl rfl _ _ _ rfl _ 8 Try.underlying22 info_int rfl (by decide) inC_len inC_one y ⟨wr.heap.size, 0, none⟩ 1 rfl rfl (cells_new _ (by simp) _ _) j HLN.out (by omega) (by decide) ?_; intro g4 cp4 w6 M6; have M7 := Lib.hid M6; clear M6))
          go_roundw
          case rel => exact ⟨j + 1, by go_num, by omega, by rw [HN.out]; exact M7.out⟩
          case measure => (simp [intOf]) <;> omega
        · obtain rfl : n9 = j := by omega
          have hol : ((l3.take n9).map fun x => Mk.round x n).length = n9 := by rw [List.length_map, List.length_take, H3.out.1.1.1]; omega
          obtain ⟨O, hO⟩ : ∃ O, ((l3.take n9).map fun x => Mk.round x n) = O := ⟨_, rfl⟩
          rw [hO] at M5 hol
          obtain ⟨A6, cap6, rfl, _⟩ := (M5.out.row 0 rfl).shape
          rw [hol] at M5 ⊢
          have HSO := Lib.hid (Own.reads inC_len (M5.out.row 0 rfl)).1
          have KX := Lib.hid ((k3.step k4).step M5.out.held)
          clear hol hO
          obtain ⟨pb, hpb⟩ : ∃ pb, place H D O = pb := ⟨_, rfl⟩
          have HVO := Lib.hid (HVA.out A7 c7 A8 c8 A6 n9 cap6 O wr (S7.out.held KX.out) (S8.out.held KX.out) HSO.out (by omega))
          rw [hpb] at HVO
          have HPB := Lib.hid hpb
          clear hpb
          cases pb
          · go_wp2_with (first | (go_at_call 12; refine HVO.out.mono ?_; rintro e w8 ⟨rfl, k8⟩) | (go_at_call 9; refine (HAW.out _).mono ?_; rintro e w9 ⟨rfl, k9⟩))
            go_ret
            exact ⟨rfl, ((K3.out.step M5.out.held).step k8).step k9⟩
          · have HLX : Hid (lexle q O) := show lexle q O by
              obtain ⟨q', hq', hl⟩ := HCPL.out O HPB.out
              injection hq' with hq'
              subst hq'; exact hl
            have HSQ := Lib.hid (S9.out.held (k4.step M5.out.held))
            go_wp2_with (go_at_call 12; refine HVO.out.mono ?_; rintro e w8 ⟨rfl, k8⟩)
            have HQ8 := Lib.hid (HSQ.out.held k8)
            have HO8 := Lib.hid (HSO.out.held k8)
            have K8 := Lib.hid ((K3.out.step M5.out.held).step k8)
            go_loopw [13] (fun i wx => ∃ j : Nat, i = .int .i64 j ∧ j ≤ n9 ∧ q.take j = O.take j ∧ Held w8 wx) (fun i _ => n9 - (intOf i).toNat)
            case atStart => exact ⟨0, rfl, Nat.zero_le _, rfl, Held.refl _⟩
            case round =>
              obtain ⟨j, rfl, hj, htk, hw⟩ := hrel
              have HTK := Lib.hid htk
              have HW := Lib.hid hw
              clear htk hw
              by_cases hlt2 : (j : Int) < n9
              · obtain ⟨b1, o1, x, rfl, _, hx, x0⟩ := Sl.at1 HQ8.out HW.out (k := j) (by omega)
                obtain ⟨b2, o2, y, rfl, _, hy, y0⟩ := Sl.at1 HO8.out HW.out (k := j) (by omega)
                have HXY := Lib.hid (And.intro hx hy)
                have j0 : ¬ (j : Int) < 0 := by omega
                clear hx hy
                by_cases he : x = y
                · have hb : (x != y) = false := by simp [he]
                  have HT2 : Hid (q.take (j + 1) = O.take (j + 1)) := show _ = _ by rw [take_snoc' HXY.out.1, take_snoc' HXY.out.2, HTK.out, he]
                  clear he
                  go_wp2
                  go_big_quiet (fail)
                  go_wp2
                  go_roundw
                  case rel => exact ⟨j + 1, by go_num, by omega, HT2.out, HW.out.step ((Held.refl _).drewN _)⟩
                  case measure => (simp [intOf]) <;> omega
                · have hb : (x != y) = true := by simp [he]
                  have hlx : x < y := lexle_lt HLX.out HTK.out HXY.out.1 HXY.out.2 he
                  have hlb : decide (x < y) = true := by simp [hlx]
                  clear he
                  have r0 := cell_regrown x0
                  have r1 := cell_regrown y0
                  go_wp2
                  refine wp_region_quiet_below (by kernel_rfl) (by kernel_rfl) ?_
                  repeat (go_big_quiet_step (fail))
                  refine wpQuiet_nil ?_
                  intro w10 hw'
                  obtain ⟨⟨dq, osq⟩, hw''⟩ := hw'
                  have h10 : Held wr w10 := by rw [hw'']; exact below_regrown _ dq osq
                  clear hw'' r0 r1
                  have r0 := cell_regrown (h10.cell x0)
                  have r1 := cell_regrown (h10.cell y0)
                  have cA := Lib.hid fun dd os => Calls.regrown_of (d := dd) (os := os) (HAW.out (grow (redrawn w10 dd) os))
                  clear x0 y0
                  go_wp2
                  refine wp_region_quiet_below (by kernel_rfl) (by kernel_rfl) ?_
                  repeat (go_big_quiet_step (first | (go_at_call 9; exact cA.out _ _)))
                  refine wpQuiet_nil ?_
                  intro w11 hw'
                  obtain ⟨⟨dq, osq⟩, hw''⟩ := hw'
                  have h11 : Held w10 w11 := by rw [hw'']; exact below_regrown _ dq osq
                  clear hw'' r0 r1 cA
                  go_wp2
                  go_ret
                  exact ⟨rfl, ((K8.out.step HW.out).step h10).step h11⟩
              · obtain rfl : n9 = j := by omega
                go_wp2_with (go_at_call 9; refine (HAW.out _).mono ?_; rintro e w9 ⟨rfl, k9⟩)
                go_ret
                exact ⟨rfl, (K8.out.step HW.out).step k9⟩
end Ba
end Go.Proofs.Ytmmjofdienoobaa
