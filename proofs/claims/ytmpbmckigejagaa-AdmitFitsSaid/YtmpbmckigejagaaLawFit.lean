/-
  What fits on a host, whatever the order: the walk.
-/
import Derived.Test.YtmpbmckigejagaaAwk39
import Derived.Test.YtmpbmckigejagaaSl
import Derived.Test.YtmpbmckigejagaaAdFit
import Derived.Deep.RegionLaw
namespace Go.Proofs.Ytmpbmckigejagaa
open Go.RowKit
set_option linter.unusedVariables false
set_option maxRecDepth 100000
namespace Law39
open Ad Adm Rw
def demC (d : Dem) : List Value := [.int .i64 d.r, .int .i64 d.l, .int .i64 d.c, .int .i64 d.g]
theorem demC_one (d : Dem) : ∀ u ∈ demC d, u.oneCell' = true := by intro u hu; simp [demC] at hu; rcases hu with rfl | rfl | rfl | rfl <;> rfl
theorem Ds.sl {w : World} {A : Option Addr} {n : Nat} {L : List Dem} (h : Ds w A n L) : Sl 4 demC w A n L := by
  refine ⟨h.1, ?_⟩
  rcases h.2 with h0 | ⟨b, off, e, hc⟩
  · exact .inl h0
  · by_cases hn : n = 0
    · exact .inl hn
    · have h1 := lt_of_cell (hc 0 (by rw [h.1]; omega)).1
      refine .inr ⟨b, off, e, h1, fun k hk j v hv => ?_⟩
      match j, hv with
      | 0, hv => simp [demC] at hv; subst hv; exact (hc k hk).1
      | 1, hv => simp [demC] at hv; subst hv; exact (hc k hk).2.1
      | 2, hv => simp [demC] at hv; subst hv; exact (hc k hk).2.2.1
      | 3, hv => simp [demC] at hv; subst hv; exact (hc k hk).2.2.2
      | j + 4, hv => simp [demC] at hv
theorem Own.ds {w : World} {base : Nat} {A : Option Addr} {n cap : Nat} {L : List Dem} (h : Own 30 4 demC base w (.slice A n cap) L) : Ds w A n L := by
  have h1 := ds_of_own h
  have h2 := h1.2.1
  subst h2
  exact h1.1
theorem dems_vd (L : List Int) : (L.map dem).all vd = true := by
  rw [List.all_eq_true]
  intro x hx
  obtain ⟨y, _, rfl⟩ := List.mem_map.1 hx
  exact dem_vd y
set_option maxHeartbeats 4000000 in
theorem fits_law (o0 : Option Addr) (len0 cap0 : Nat) (z0 : List Int) (a1 a2 : Int) (b3 : Bool) (a4 : Int) (w1 : (Lit.int .i64 a1).wf = true) (w2 : (Lit.int .i64 a2).wf = true) (w4 : (Lit.int .i64 a4).wf = true) (W : World) (w0 : IsRow .i64 W o0 len0 cap0 z0) :
    Calls Try.prog 3 #[.slice o0 len0 cap0, .int .i64 a1, .int .i64 a2, .bool b3, .int .i64 a4] W fun e w' => e = .returned (.bool true) ∧ Below W.heap.size W w' := by
  have hm := bd_i64 w1
  have hc := bd_i64 w2
  have ht := bd_i64 w4
  obtain ⟨L, hL, hmax, hwf, hcell⟩ := w0.view
  clear w0 w1 w2 w4
  have hmx : (len0 : Int) ≤ 9223372036854775807 := by unfold maxLen at hmax; omega
  by_cases g1 : (len0 : Int) < 1
  · go_enter Try.func3, Try.ntmps3
    go_wp2_with (go_at_call 7; refine (Law39.awake_any _).mono ?_; rintro e w1 ⟨rfl, hb⟩)
    go_ret
    exact ⟨rfl, hb⟩
  by_cases g2 : (16 : Int) < len0
  · go_enter Try.func3, Try.ntmps3
    go_wp2_with (go_at_call 7; refine (Law39.awake_any _).mono ?_; rintro e w1 ⟨rfl, hb⟩)
    go_ret
    exact ⟨rfl, hb⟩
  obtain ⟨m, hm'⟩ : ∃ m, Mk.round a1 80 = m := ⟨_, rfl⟩
  obtain ⟨c, hc'⟩ : ∃ c, Mk.round a2 80 = c := ⟨_, rfl⟩
  have hmb : 0 ≤ m ∧ m ≤ 1000000 := by have := Mk.round_bd a1 80 (by decide); omega
  have hcb : 0 ≤ c ∧ c ≤ 1000000 := by have := Mk.round_bd a2 80 (by decide); omega
  have HM := Lib.hid hm'
  have HC := Lib.hid hc'
  clear hm' hc'
  go_enter Try.func3, Try.ntmps3
  go_wp2_with (first | (go_at_call 8; refine (Mk.round_any _ _ (by omega) (by omega) (by decide) (by decide) _).mono ?_; rintro e w1 ⟨rfl, rfl⟩; first | rw [HM.out] | rw [HC.out]))
  have hcell1 : len0 = 0 ∨ ∃ b off, o0 = some ⟨b, off, none⟩ ∧ b < (W.alloc (.cells #[.int .i64 m, .int .i64 c, .bool b3] 26)).heap.size ∧ ∀ i (h : i < L.length), (W.alloc (.cells #[.int .i64 m, .int .i64 c, .bool b3] 26)).cell? ⟨b, off + i, none⟩ = some (.int .i64 L[i]) := by
    rcases hcell with h | ⟨b, off, e, hb, hc⟩
    · exact .inl h
    · exact .inr ⟨b, off, e, by simp; omega, fun i hi => ((Held.refl W).alloc _).cell (hc i hi)⟩
  refine (demands_make _ _ _ L _ hL (by omega) hcell1).mono ?_
  rintro e w1 ⟨v, rfl, hown, hh⟩
  have hw1 : Held W w1 := ((Held.refl W).alloc _).step hh
  have b0 := hh.cell (p := ⟨W.heap.size, 0, none⟩) (v := .int .i64 m) (by simp)
  have b1 := hh.cell (p := ⟨W.heap.size, 1, none⟩) (v := .int .i64 c) (by simp)
  have b2 := hh.cell (p := ⟨W.heap.size, 2, none⟩) (v := .bool b3) (by simp)
  obtain ⟨A, cp, rfl, hcp⟩ := own_slice hown
  have hds0 := (ds_of_own hown).1
  have hL2 : (L.map dem).length = len0 := by simp [hL]
  have hvd := dems_vd L
  generalize L.map dem = M at *
  rw [hL2] at hds0
  have HD := Lib.hid hds0
  have HL2 := Lib.hid hL2
  have HVD := Lib.hid hvd
  have hlenM : (M.length : Int) ≤ 16 := by omega
  rw [hL2] at hcp
  have B0 := Lib.hid b0
  have B1 := Lib.hid b1
  have B2 := Lib.hid b2
  have W1 := Lib.hid hw1
  rw [hL2]
  clear hds0 hL2 hvd b0 b1 b2 hw1 hh hown hcell hcell1 hL hwf hmax hm hc HM HC
  go_wp2
  go_loopw [13, 14, 15, 16] (fun m t ap i wr => ∃ k : Nat, k ≤ len0 ∧ i = .int .i64 k ∧ m = .int .i64 (sumR (M.take k)) ∧ t = .int .i64 (sumC (M.take k)) ∧ ap = .bool (apTo M k) ∧ Held w1 wr) (fun _ _ _ i _ => len0 - (intOf i).toNat)
  case atStart => exact ⟨0, Nat.zero_le _, rfl, rfl, rfl, rfl, Held.refl _⟩
  case round =>
    obtain ⟨k, hk, rfl, rfl, rfl, rfl, hh⟩ := hrel
    have hsb := sum_bd (M.take k) (all_take HVD.out k)
    have hlt' : (M.take k).length ≤ k := List.length_take_le _ _
    by_cases hlt : k < len0
    · obtain ⟨b, off, r, l, cc, g, hA, hk?, c0, c1, c2, c3⟩ := HD.out.at_ (Held.refl _) hlt
      have q0 := hh.cell c0
      have q2 := hh.cell c2
      subst hA
      have hkM : k < M.length := by rw [HL2.out]; exact hlt
      have hgk := (List.getElem?_eq_some_iff.1 hk?).2
      have hvd : vd ⟨r, l, cc, g⟩ = true := by rw [← hgk]; exact List.all_eq_true.1 HVD.out _ (List.getElem_mem hkM)
      have hbd := vd_bd hvd
      have HR : Hid (sumR (M.take (k + 1)) = sumR (M.take k) + r) := show _ = _ by rw [take_snoc M k hkM, hgk, sumR_snoc]
      have HCs : Hid (sumC (M.take (k + 1)) = sumC (M.take k) + cc) := show _ = _ by rw [take_snoc M k hkM, hgk, sumC_snoc]
      have HAp : Hid (apTo M (k + 1) = (apTo M k && apI M ⟨r, l, cc, g⟩ k)) := show _ = _ by rw [apTo, hk?]
      simp only at hbd
      clear hk? hgk hvd hkM
      have C3 := Lib.hid c3
      clear c0 c1 c2 c3
      obtain ⟨sr, hsr⟩ : ∃ x, sumR (M.take k) = x := ⟨_, rfl⟩
      obtain ⟨sc, hsc⟩ : ∃ x, sumC (M.take k) = x := ⟨_, rfl⟩
      obtain ⟨ap, hap⟩ : ∃ x, apTo M k = x := ⟨_, rfl⟩
      rw [hsr] at hsb HR ⊢
      rw [hsc] at hsb HCs ⊢
      rw [hap] at HAp ⊢
      clear hsr hsc hap
      have hsb1 : 0 ≤ sr ∧ sr ≤ 100000000 := by omega
      have hsb2 : 0 ≤ sc ∧ sc ≤ 100000000 := by omega
      have i1 : (0 : Int) ≤ (k : Int) := by omega
      have i2 : (k : Int) < (len0 : Int) := by omega
      clear hsb hlt'
      go_wp2
      go_loopw [15, 17] (fun ap' i wr => ∃ j : Nat, j ≤ k ∧ i = .int .i64 j ∧ ap' = .bool (ap && apI M ⟨r, l, cc, g⟩ j) ∧ Held w1 wr) (fun _ i _ => k - (intOf i).toNat)
      case atStart => exact ⟨0, Nat.zero_le _, rfl, by simp [apI], hh⟩
      case round =>
        obtain ⟨j, hj, rfl, rfl, hh2⟩ := hrel
        by_cases hjk : j < k
        · obtain ⟨b', off', r', l', cc', g', hA', hk?, q0', q1', q2', q3'⟩ := HD.out.at_ hh2 (show j < len0 by omega)
          injection hA' with hA'
          injection hA' with e1 e2
          subst e1 e2
          have e3 := hh2.cell C3.out
          have hsp : apI M ⟨r, l, cc, g⟩ (j + 1) = (apI M ⟨r, l, cc, g⟩ j && sep ⟨r, l, cc, g⟩ ⟨r', l', cc', g'⟩) := by
            obtain ⟨hjm, hjg⟩ := List.getElem?_eq_some_iff.1 hk?
            unfold apI
            rw [take_snoc M j hjm, List.all_append, hjg]; simp
          have i3 : (0 : Int) ≤ (j : Int) := by omega
          have i4 : (j : Int) < (len0 : Int) := by omega
          clear hk?
          obtain ⟨x, hx⟩ : ∃ x, (ap && apI M ⟨r, l, cc, g⟩ j) = x := ⟨_, rfl⟩
          have HX : Hid ((ap && apI M ⟨r, l, cc, g⟩ (j + 1)) = (x && sep ⟨r, l, cc, g⟩ ⟨r', l', cc', g'⟩)) := show _ = _ by rw [hsp, ← Bool.and_assoc, hx]
          rw [hx]
          clear hx hsp
          cases x
          · go_wp2
            go_quiet (fail)
            go_wp2
            go_roundw
            case rel => exact ⟨j + 1, by omega, by go_num, by rw [HX.out]; rfl, hh2.drewN _⟩
            case measure => simp [intOf]; omega
          · by_cases g0 : g = 0
            · have g0' : (g == 0) = true := by simp [g0]
              have HS : Hid (sep ⟨r, l, cc, g⟩ ⟨r', l', cc', g'⟩ = true) := show _ = _ by simp [sep, g0]
              clear g0
              go_wp2
              go_quiet (fail)
              go_wp2
              go_roundw
              case rel => exact ⟨j + 1, by omega, by go_num, by rw [HX.out, HS.out]; rfl, hh2.drewN _⟩
              case measure => simp [intOf]; omega
            · have g0' : (g == 0) = false := by simp [g0]
              by_cases gg : g = g'
              · have gg' : (g != g') = false := by simp [gg]
                have HS : Hid (sep ⟨r, l, cc, g⟩ ⟨r', l', cc', g'⟩ = false) := show _ = _ by simp [sep, g0, gg]; rw [← gg]; exact g0
                clear g0 gg
                go_wp2
                go_quiet (fail)
                go_wp2
                go_roundw
                case rel => exact ⟨j + 1, by omega, by go_num, by rw [HX.out, HS.out]; rfl, hh2.drewN _⟩
                case measure => simp [intOf]; omega
              · have gg' : (g != g') = true := by simp [gg]
                have HS : Hid (sep ⟨r, l, cc, g⟩ ⟨r', l', cc', g'⟩ = true) := show _ = _ by simp [sep, g0, gg]
                clear g0 gg
                go_wp2
                go_quiet (fail)
                go_wp2
                go_roundw
                case rel => exact ⟨j + 1, by omega, by go_num, by rw [HX.out, HS.out]; rfl, hh2.drewN _⟩
                case measure => simp [intOf]; omega
        · obtain rfl : j = k := by omega
          go_wp2
          go_roundw
          case rel => exact ⟨j + 1, by omega, by go_num, by rw [HR.out], by rw [HCs.out], by rw [HAp.out], hh2⟩
          case measure => simp [intOf]; omega
    · obtain rfl : k = len0 := by omega
      have HT : Hid (M.take k = M) := show _ = _ by rw [← HL2.out, List.take_length]
      rw [HT.out] at hsb ⊢
      have HF : Hid (fits m c b3 M = (b3 && (decide (sumR M ≤ m) && (decide (sumC M ≤ c) && apTo M k)))) := show _ = _ by rw [fits_iff hmb hcb (by have := HL2.out; omega) HVD.out (by have := HL2.out; omega), HL2.out]
      obtain ⟨sr, hsr⟩ : ∃ x, sumR M = x := ⟨_, rfl⟩
      obtain ⟨sc, hsc⟩ : ∃ x, sumC M = x := ⟨_, rfl⟩
      obtain ⟨ap, hap⟩ : ∃ x, apTo M k = x := ⟨_, rfl⟩
      rw [hsr] at hsb HF ⊢
      rw [hsc] at hsb HF ⊢
      rw [hap] at HF ⊢
      clear hsr hsc hap
      have hsb1 : 0 ≤ sr ∧ sr ≤ 100000000 := by omega
      have hsb2 : 0 ≤ sc ∧ sc ≤ 100000000 := by omega
      obtain ⟨tn, htn⟩ : ∃ n : Nat, Mk.round a4 k = n := ⟨(Mk.round a4 k).toNat, by have := Mk.round_bd a4 k (by omega); omega⟩
      have htl : tn < k := by have := Mk.round_bd a4 k (by omega); omega
      have HTN := Lib.hid htn
      have hpm := fits_perm (m := m) (c := c) (up := b3) hmb hcb (by have := HL2.out; omega) HVD.out (by have := HL2.out; omega) (turn_perm M tn)
      have HPM := Lib.hid hpm
      clear htn hpm hsb hlt'
      obtain ⟨b, off, r, l, cc, g, hA, _⟩ := HD.out.at_ hh (show 0 < k by omega)
      subst hA
      have B0' := hh.cell B0.out
      have B1' := hh.cell B1.out
      have B2' := hh.cell B2.out
      have j1 : (0 : Int) ≤ (tn : Int) := by omega
      have j2 : (tn : Int) ≤ (k : Int) := by omega
      have j3 : (k : Int) ≤ (cp : Int) := by omega
      have j4 : (tn : Int) ≤ (cp : Int) := by omega
      have hne : ¬ cp = tn := by omega
      go_wp2_with (go_at_call 8; refine (Mk.round_any _ _ (by omega) (by omega) (by omega) (by omega) _).mono ?_; rintro e w2 ⟨rfl, rfl⟩; rw [HTN.out])
      have HM1 : Hid ((M.drop tn).length = k - tn) := show _ = _ by rw [List.length_drop, HL2.out]
      have HM2 : Hid ((M.take tn).length = tn) := show _ = _ by rw [List.length_take, HL2.out]; omega
      have HB1 : Hid ((([] : List Dem).length + (k - tn)) * 32 ≤ 140737488355328) := show _ ≤ _ by rw [List.length_nil]; omega
      have HB2 : Hid (((M.drop tn).length + tn) * 32 ≤ 140737488355328) := show _ ≤ _ by rw [HM1.out]; omega
      have SD1 := Lib.hid (Sl.drop (Ds.sl (HD.out.held hh)) (show tn ≤ k by omega))
      have SD2 := Lib.hid (Sl.take (Ds.sl (HD.out.held hh)) (show tn ≤ k by omega))
      have SD := Lib.hid (Ds.sl (HD.out.held hh))
      go_region_held3 (fun w' => Held wr w')
        (first | exact (Held.refl _).drew | exact (by assumption) | exact Held.alloc (by assumption) _)
        (first | (refine Own.step_apps (f := demC) _ (by rfl) _ _ _ (by rfl) _ 32 Try.underlying27 info_dem (by rfl) (by decide) (fun _ => rfl) demC_one wr (by assumption) (.slice (some ⟨_, 0, none⟩) 0 0) [] (M.drop tn) _ _ _ (by rfl) (Own.held (W := wr) (Own.empty (Nat.le_refl _)) (Held.refl _).drew) (by rfl) HM1.out (Sl.flat (f := demC) (fun _ => rfl) (by decide) (Sl.held SD1.out (by assumption))) HB1.out (by decide) ?_; intro v5 w5 hown5 h5 hg5) | (refine Own.step_apps (f := demC) _ (by rfl) _ _ _ (by rfl) _ 32 Try.underlying27 info_dem (by rfl) (by decide) (fun _ => rfl) demC_one wr (by assumption) v5 (M.drop tn) (M.take tn) _ _ _ (by rfl) hown5 (by rfl) HM2.out (Sl.flat (f := demC) (fun _ => rfl) (by decide) (Sl.held SD2.out (by assumption))) HB2.out (by decide) ?_; intro v6 w6 hown6 h6 hg6))
      have HRL : Hid ((M.drop tn ++ M.take tn).length = k) := show _ = _ by rw [List.length_append, HM1.out, HM2.out]; omega
      generalize M.drop tn ++ M.take tn = R at HPM hown6 HRL
      obtain ⟨A6, cp6, rfl, hcp6, _⟩ := hown6.shape
      have hds6 := Own.ds hown6
      rw [HRL.out] at hds6 hcp6 ⊢
      have HD6 := Lib.hid hds6
      have HH6 : Hid (Held W w6) := (W1.out.step hh).step h6
      have HD0 := Lib.hid (HD.out.held (hh.step h6))
      have q0 := h6.cell B0'
      have q1 := h6.cell B1'
      have q2 := h6.cell B2'
      have l0 := lt_of_cell q0
      clear hown6 hds6 B0' B1' B2' hh h6 h5 hg5 hg6 hown5 SD SD1 SD2 HB1 HB2 HM1 HM2 HD hne j1 j2 j3 j4
      have four : (b3 = false) ∨ (b3 = true ∧ m < sr) ∨ (b3 = true ∧ sr ≤ m ∧ c < sc) ∨ (b3 = true ∧ sr ≤ m ∧ sc ≤ c) := by
        cases b3
        · exact .inl rfl
        · have : m < sr ∨ (sr ≤ m ∧ c < sc) ∨ (sr ≤ m ∧ sc ≤ c) := by omega
          rcases this with h | h | h
          · exact .inr (.inl ⟨rfl, h⟩)
          · exact .inr (.inr (.inl ⟨rfl, h⟩))
          · exact .inr (.inr (.inr ⟨rfl, h⟩))
      obtain ⟨ft, hft, hall⟩ : ∃ ft, fits m c b3 M = ft ∧ ((b3 = false ∧ ft = false) ∨ (b3 = true ∧ m < sr ∧ ft = false) ∨ (b3 = true ∧ sr ≤ m ∧ c < sc ∧ ft = false) ∨ (b3 = true ∧ sr ≤ m ∧ sc ≤ c ∧ ft = ap)) := by
        refine ⟨_, rfl, ?_⟩
        rcases four with h | ⟨h, h1⟩ | ⟨h, h1, h2⟩ | ⟨h, h1, h2⟩
        · exact .inl ⟨h, by rw [HF.out, h]; rfl⟩
        · exact .inr (.inl ⟨h, h1, by rw [HF.out, h, decide_eq_false (by omega)]; rfl⟩)
        · exact .inr (.inr (.inl ⟨h, h1, h2, by rw [HF.out, h, decide_eq_true h1, decide_eq_false (by omega)]; rfl⟩))
        · exact .inr (.inr (.inr ⟨h, h1, h2, by rw [HF.out, h, decide_eq_true h1, decide_eq_true h2]; rfl⟩))
      have HFT := Lib.hid hft
      have HPM2 : Hid (fits m c b3 R = ft) := show _ = _ by rw [HPM.out, hft]
      clear four hft HF HPM
      rcases hall with ⟨rfl, rfl⟩ | ⟨rfl, h1, rfl⟩ | ⟨rfl, h1, h2, rfl⟩ | ⟨rfl, h1, h2, rfl⟩
      all_goals
        go_wp2_with fail
        refine (fits_any _ _ _ _ _ _ M _ HD0.out (by omega) (by omega)).mono ?_
        rintro e w7 ⟨rfl, h7⟩
        rw [HFT.out]
        have q0' := h7.cell q0
        have q1' := h7.cell q1
        have q2' := h7.cell q2
        have l0' := lt_of_cell q0'
        clear q0 q1 q2 l0
        go_wp2_with fail
        refine (fits_any _ _ _ _ _ _ R _ (HD6.out.held h7) (by omega) (by omega)).mono ?_
        rintro e w8 ⟨rfl, h8⟩
        rw [HPM2.out]
        have H8 := Lib.hid ((HH6.out.step h7).step h8)
        clear q0' q1' q2' l0' h7 h8
        go_wp2_with (go_at_call 7; refine (Law39.awake_any _).mono ?_; rintro e w9 ⟨rfl, h9⟩)
        go_ret
        exact ⟨rfl, H8.out.step h9⟩
end Law39
end Go.Proofs.Ytmpbmckigejagaa
