/-
  Contracts of compression (chapter 20), part C: the window's best match.
-/
import Derived.Test.YtgfbfmgdlbdlhaaCpB
set_option linter.unusedVariables false
set_option maxRecDepth 100000
namespace Go.Proofs.Ytgfbfmgdlbdlhaa
open Go.RowKit
open By
namespace Cp
theorem more' (s : ByteArray) (i j m : Nat) (hj : j < i) (h : i + m < s.size) (hm : m ≤ lcp (s.data.toList.drop i) (s.data.toList.drop j)) :
    m < lcp (s.data.toList.drop i) (s.data.toList.drop j) ↔ s[i + m] = s[j + m] := by
  rw [lcp_next hm, at_drop s i m h, at_drop s j m (by omega)]
  constructor
  · rintro ⟨c, h1, h2⟩; injection h1 with h1; injection h2 with h2; rw [h1, h2]
  · intro e; exact ⟨_, rfl, by rw [e]⟩
theorem mem_pos {s g : List UInt8} {i j : Nat} (h : j ∈ pos s g i) : j < i ∧ i - 255 ≤ j ∧ grp s j = some g := by
  unfold pos occ at h
  rw [List.mem_filter, List.mem_range'] at h
  obtain ⟨⟨k, hk, rfl⟩, h2⟩ := h
  exact ⟨by omega, by omega, by simpa using h2⟩
theorem fold_at {s : List UInt8} {i p : Nat} {xs : List Nat} (h : p < xs.length) : among s i (xs.drop p) = step s i xs[p] (among s i (xs.drop (p + 1))) := by
  rw [List.drop_eq_getElem_cons h]; rfl
theorem fold_full {s : List UInt8} {i q : Nat} {xs : List Nat} (h : min 67 (s.length - i) ≤ (among s i (xs.drop q)).2) : among s i xs = among s i (xs.drop q) := by
  conv => lhs; rw [← List.take_append_drop q xs, among_append]
  exact among_full _ h _
theorem mlen_at {s : List UInt8} {i j r lim : Nat} (hj : j < i) (hlim : lim = min 67 (s.length - i)) (h1 : r ≤ lim) (h2 : r ≤ lcp (s.drop i) (s.drop j)) (h3 : r = lim ∨ ¬ r < lcp (s.drop i) (s.drop j)) : mlen s i (i - j) = r := by
  unfold mlen
  rw [show i - (i - j) = j by omega]
  have := lcp_le (s.drop i) (s.drop j)
  rw [List.length_drop] at this
  omega
set_option maxHeartbeats 4000000 in
theorem match_any (wb m : Nat) (s : ByteArray) (F : Nat → Prop) (w0 w : World) (i : Nat) (hs : (s.size : Int) ≤ 1099511627776) (hi : i ≤ s.size) (h : Mv wb m s F w0 i (fun g => pos s.data.toList g i) w) :
    Calls Try.prog 49 #[.pointer (some ⟨wb, 0, none⟩), .int .i64 i] w fun e w' => e = .returned (.tuple #[.int .i64 (mat s.data.toList i).1, .int .i64 (mat s.data.toList i).2]) ∧ Held w w' := by
  obtain ⟨c0, c1, c2, c3⟩ := h.cells
  by_cases hg : i + 4 ≤ s.size
  · obtain ⟨F', ⟨es, cl, V, hI⟩, hF'⟩ := h.win
    obtain ⟨k, hk⟩ : ∃ k, k = s.extract i (i + 4) := ⟨_, rfl⟩
    have hks : k.size ≤ maxLen := by rw [hk]; unfold maxLen; simp; omega
    have hgk : grp s.data.toList i = some k.data.toList := by rw [hk]; exact grp_ex s i hg
    have HG := Lib.hid (group_key wb s k i w c0 hs hg hk)
    have hlk := hI.look (Pr := Try.prog) (kt := 9) (t := 73) Try.underlying9 Try.underlying73 zero_ints k hks (w' := w) rfl
    obtain ⟨xs, hxs⟩ : ∃ xs, xs = pos s.data.toList k.data.toList i := ⟨_, rfl⟩
    obtain ⟨A, cap, hv, hcap, hcell⟩ : ∃ A cap, Win.val V k = .slice A xs.length cap ∧ xs.length ≤ cap ∧ ∀ p (h : p < xs.length), ∃ b off, A = some ⟨b, off, none⟩ ∧ w.cell? ⟨b, off + p, none⟩ = some (.int .i64 (xs[p] : Int)) := by
      subst hxs
      rcases hI.val_is k with ⟨h1, h2, _⟩ | ⟨b, _, _, _, off, cap, cells, h3, h4, h5, _, _, h8⟩
      · refine ⟨none, 0, by rw [h1, h2]; rfl, by rw [h2]; simp, fun p hp => ?_⟩
        rw [h2] at hp; simp at hp
      · exact ⟨_, cap, h3, h5, fun p hp => ⟨b, off, rfl, by simp only [World.cell?, h4]; exact h8 p hp⟩⟩
    rw [hv] at hlk
    have HA : Hid (among s.data.toList i xs = mat s.data.toList i) := by rw [hxs]; exact among_pos hgk
    have HX : Hid (∀ p (h : p < xs.length), xs[p] < i ∧ 4 ≤ lcp (s.data.toList.drop i) (s.data.toList.drop xs[p])) := by
      intro p hp
      have h1 := mem_pos (s := s.data.toList) (g := k.data.toList) (i := i) (j := xs[p]) (by rw [← hxs]; exact List.getElem_mem hp)
      exact ⟨h1.1, (grp_iff (by rw [size_len]; exact hg) (by omega)).1 (by rw [h1.2.2, hgk])⟩
    have hxl : xs.length ≤ 255 := by rw [hxs]; exact pos_len _ _ _
    have HC := Lib.hid hcell
    clear hcell hxs hgk hk hv hI hF' hks h
    have hsi : (i : Int) + 4 ≤ s.size := by omega
    obtain ⟨lim, hlim⟩ : ∃ lim : Nat, lim = min 67 (s.data.toList.length - i) := ⟨_, rfl⟩
    have HL := Lib.hid hlim
    rw [size_len] at hlim
    have hl4 : 4 ≤ lim ∧ lim ≤ 67 ∧ i + lim ≤ s.size := by omega
    have hmin : Value.int .i64 (min (67 : Int) ((s.size : Int) - i)) = .int .i64 lim := by congr 1; omega
    by_cases h67 : (s.size : Int) - i < 67
    · have hl2 : (s.size : Int) - i = lim := by omega
      clear hlim hmin
      go_enter Try.func49, Try.ntmps49
      go_wp2_with (go_at_call 53; refine HG.out.mono ?_; rintro e w' ⟨rfl, rfl⟩)
      clear hl2 h67
      go_loopw [9, 10, 12] (fun d n k wr => ∃ (q : Nat) (z : Int), q ≤ xs.length ∧ k = .int .i64 z ∧ z = (q : Int) - 1 ∧ d = .int .i64 (among s.data.toList i (xs.drop q)).1 ∧ n = .int .i64 (among s.data.toList i (xs.drop q)).2 ∧ Held w wr) (fun _ _ k _ => (intOf k + 1).toNat)
      case atStart => exact ⟨xs.length, _, Nat.le_refl _, rfl, rfl, by simp [among], by simp [among], Held.refl _⟩
      case round =>
        obtain ⟨q, z, hq, rfl, hz, rfl, rfl, hk⟩ := hrel
        have HK := Lib.hid hk
        have f0 := hk.cell c0
        have f1 := hk.cell c1
        clear hk
        by_cases h0 : q = 0
        · subst h0
          obtain rfl : z = -1 := by omega
          have HA' : Hid (among s.data.toList i (xs.drop 0) = mat s.data.toList i) := HA.out
          generalize among s.data.toList i (xs.drop 0) = dn at HA'
          clear hz
          go_wp2
          go_ret2
          exact ⟨by rw [← HA'.out]; rfl, HK.out⟩
        · obtain ⟨p, rfl⟩ : ∃ p, q = p + 1 := ⟨q - 1, by omega⟩
          obtain rfl : z = p := by omega
          clear hz h0
          obtain ⟨⟨d, n⟩, hdn⟩ : ∃ dn, among s.data.toList i (xs.drop (p + 1)) = dn := ⟨_, rfl⟩
          have HD := Lib.hid hdn
          rw [hdn]
          clear hdn
          by_cases hfull : (lim : Int) ≤ n
          · have HF : Hid (mat s.data.toList i = (d, n)) := by
              show _ = _
              rw [← HA.out, fold_full (q := p + 1) (by rw [HD.out, ← HL.out]; show lim ≤ n; omega), HD.out]
            go_wp2
            go_ret2
            exact ⟨by rw [HF.out]; rfl, HK.out⟩
          · have hfull' : (n : Int) < lim := by omega
            obtain ⟨b, off, hA, hcj⟩ := HC.out p (by omega)
            subst hA
            obtain ⟨J, hJ⟩ : ∃ J, J = xs[p]'(by omega) := ⟨_, rfl⟩
            rw [← hJ] at hcj
            have hJx := HX.out p (by omega)
            rw [← hJ] at hJx
            obtain ⟨hJi, hJ4⟩ := hJx
            have HJ := Lib.hid hJ
            clear hJ
            have HJ4 := Lib.hid hJ4
            clear hJ4
            have f2 := HK.out.cell hcj
            have HF := Lib.hid (And.intro f0 (And.intro f1 f2))
            clear hcj hfull f0 f1 f2
            have hp1 : (p : Int) < xs.length := by omega
            go_wp2
            obtain ⟨wA, hwA⟩ : ∃ wA : World, wA = wr := ⟨_, rfl⟩
            rw [← hwA] at HK HF ⊢
            clear hwA
            go_loopw [13] (fun v wr => ∃ r : Nat, 4 ≤ r ∧ r ≤ lim ∧ r ≤ lcp (s.data.toList.drop i) (s.data.toList.drop J) ∧ v = .int .i64 r ∧ Held wA wr) (fun v _ => lim - (intOf v).toNat)
            case atStart => exact ⟨4, by omega, by omega, HJ4.out, rfl, Held.refl _⟩
            case round =>
              obtain ⟨r, hr4, hrl, hrc, rfl, hkk⟩ := hrel
              have HR := Lib.hid hrc
              have HKK := Lib.hid (HK.out.step hkk)
              have f0 := hkk.cell HF.out.1
              have f1 := hkk.cell HF.out.2.1
              have f2 := hkk.cell HF.out.2.2
              have HH := Lib.hid hkk
              clear hrc hkk
              by_cases ha : (r : Int) < lim
              · have e1 : IntKind.i64.wrap ((i : Int) + r) = (i : Int) + r := IntWalk.i64_in _ (by omega)
                have e2 : IntKind.i64.wrap ((J : Int) + r) = (J : Int) + r := IntWalk.i64_in _ (by omega)
                have e4 := idx s ((i : Int) + r) (i + r) (by omega) (by omega)
                have e5 := idx s ((J : Int) + r) (J + r) (by omega) (by omega)
                have e6 : (0 : Int) ≤ p := by omega
                have hm := more' s i J r hJi (by omega) HR.out
                by_cases hc : s[i + r]'(by omega) = s[J + r]'(by omega)
                · have HN := Lib.hid (hm.2 hc)
                  rw [← hc] at e5
                  clear hm hc
                  generalize (s[i + r]'(by omega)).toNat = x at e4 e5
                  go_wp2
                  go_quiet (fail)
                  go_wp2
                  go_roundw
                  case rel => exact ⟨r + 1, by omega, by omega, HN.out, by go_num, HH.out.drewN _⟩
                  case measure => (simp [intOf]) <;> omega
                · have HN : Hid (mlen s.data.toList i (i - J) = r) := mlen_at hJi HL.out hrl HR.out (.inr fun h => hc (hm.1 h))
                  have hne : ¬ (s[i + r]'(by omega)).toNat = (s[J + r]'(by omega)).toNat := fun h => hc (UInt8.toNat_inj.1 h)
                  clear hm hc
                  generalize (s[i + r]'(by omega)).toNat = x at e4 hne
                  generalize (s[J + r]'(by omega)).toNat = y at e5 hne
                  have hne' : ((x : Int) == (y : Int)) = false := by simp; omega
                  clear hne
                  go_wp2
                  go_quiet (fail)
                  by_cases hbig : n < r
                  · have HS : Hid (among s.data.toList i (xs.drop p) = (i - J, r)) := by
                      rw [fold_at (by omega), HD.out, ← HJ.out]; unfold step; rw [HN.out]; exact if_pos hbig
                    go_wp2
                    go_roundw
                    case rel => exact ⟨p, _, by omega, rfl, rfl, by (rw [HS.out]) <;> go_num, by (rw [HS.out]) <;> rfl, HKK.out.drewN _⟩
                    case measure => (simp [intOf]) <;> omega
                  · have HS : Hid (among s.data.toList i (xs.drop p) = (d, n)) := by
                      rw [fold_at (by omega), HD.out, ← HJ.out]; unfold step; rw [HN.out]; exact if_neg hbig
                    go_wp2
                    go_roundw
                    case rel => exact ⟨p, _, by omega, rfl, rfl, by (rw [HS.out]) <;> rfl, by (rw [HS.out]) <;> rfl, HKK.out.drewN _⟩
                    case measure => (simp [intOf]) <;> omega
              · have HN : Hid (mlen s.data.toList i (i - J) = r) := mlen_at hJi HL.out hrl HR.out (.inl (by omega))
                have ha' : decide ((r : Int) < lim) = false := by simpa using ha
                have ha2 : decide (r < lim) = false := by simp; omega
                go_wp2
                go_quiet (fail)
                by_cases hbig : n < r
                · have HS : Hid (among s.data.toList i (xs.drop p) = (i - J, r)) := by
                    rw [fold_at (by omega), HD.out, ← HJ.out]; unfold step; rw [HN.out]; exact if_pos hbig
                  go_wp2
                  go_roundw
                  case rel => exact ⟨p, _, by omega, rfl, rfl, by (rw [HS.out]) <;> go_num, by (rw [HS.out]) <;> rfl, HKK.out.drewN _⟩
                  case measure => (simp [intOf]) <;> omega
                · have HS : Hid (among s.data.toList i (xs.drop p) = (d, n)) := by
                    rw [fold_at (by omega), HD.out, ← HJ.out]; unfold step; rw [HN.out]; exact if_neg hbig
                  go_wp2
                  go_roundw
                  case rel => exact ⟨p, _, by omega, rfl, rfl, by (rw [HS.out]) <;> rfl, by (rw [HS.out]) <;> rfl, HKK.out.drewN _⟩
                  case measure => (simp [intOf]) <;> omega
    · obtain rfl : lim = 67 := by omega
      have hl2 : True := trivial
      clear hlim hmin
      go_enter Try.func49, Try.ntmps49
      go_wp2_with (go_at_call 53; refine HG.out.mono ?_; rintro e w' ⟨rfl, rfl⟩)
      clear hl2 h67
      go_loopw [9, 10, 12] (fun d n k wr => ∃ (q : Nat) (z : Int), q ≤ xs.length ∧ k = .int .i64 z ∧ z = (q : Int) - 1 ∧ d = .int .i64 (among s.data.toList i (xs.drop q)).1 ∧ n = .int .i64 (among s.data.toList i (xs.drop q)).2 ∧ Held w wr) (fun _ _ k _ => (intOf k + 1).toNat)
      case atStart => exact ⟨xs.length, _, Nat.le_refl _, rfl, rfl, by simp [among], by simp [among], Held.refl _⟩
      case round =>
        obtain ⟨q, z, hq, rfl, hz, rfl, rfl, hk⟩ := hrel
        have HK := Lib.hid hk
        have f0 := hk.cell c0
        have f1 := hk.cell c1
        clear hk
        by_cases h0 : q = 0
        · subst h0
          obtain rfl : z = -1 := by omega
          have HA' : Hid (among s.data.toList i (xs.drop 0) = mat s.data.toList i) := HA.out
          generalize among s.data.toList i (xs.drop 0) = dn at HA'
          clear hz
          go_wp2
          go_ret2
          exact ⟨by rw [← HA'.out]; rfl, HK.out⟩
        · obtain ⟨p, rfl⟩ : ∃ p, q = p + 1 := ⟨q - 1, by omega⟩
          obtain rfl : z = p := by omega
          clear hz h0
          obtain ⟨⟨d, n⟩, hdn⟩ : ∃ dn, among s.data.toList i (xs.drop (p + 1)) = dn := ⟨_, rfl⟩
          have HD := Lib.hid hdn
          rw [hdn]
          clear hdn
          by_cases hfull : (67 : Int) ≤ n
          · have HF : Hid (mat s.data.toList i = (d, n)) := by
              show _ = _
              rw [← HA.out, fold_full (q := p + 1) (by rw [HD.out, ← HL.out]; show 67 ≤ n; omega), HD.out]
            go_wp2
            go_ret2
            exact ⟨by rw [HF.out]; rfl, HK.out⟩
          · have hfull' : (n : Int) < 67 := by omega
            obtain ⟨b, off, hA, hcj⟩ := HC.out p (by omega)
            subst hA
            obtain ⟨J, hJ⟩ : ∃ J, J = xs[p]'(by omega) := ⟨_, rfl⟩
            rw [← hJ] at hcj
            have hJx := HX.out p (by omega)
            rw [← hJ] at hJx
            obtain ⟨hJi, hJ4⟩ := hJx
            have HJ := Lib.hid hJ
            clear hJ
            have HJ4 := Lib.hid hJ4
            clear hJ4
            have f2 := HK.out.cell hcj
            have HF := Lib.hid (And.intro f0 (And.intro f1 f2))
            clear hcj hfull f0 f1 f2
            have hp1 : (p : Int) < xs.length := by omega
            go_wp2
            obtain ⟨wA, hwA⟩ : ∃ wA : World, wA = wr := ⟨_, rfl⟩
            rw [← hwA] at HK HF ⊢
            clear hwA
            go_loopw [13] (fun v wr => ∃ r : Nat, 4 ≤ r ∧ r ≤ 67 ∧ r ≤ lcp (s.data.toList.drop i) (s.data.toList.drop J) ∧ v = .int .i64 r ∧ Held wA wr) (fun v _ => 67 - (intOf v).toNat)
            case atStart => exact ⟨4, by omega, by omega, HJ4.out, rfl, Held.refl _⟩
            case round =>
              obtain ⟨r, hr4, hrl, hrc, rfl, hkk⟩ := hrel
              have HR := Lib.hid hrc
              have HKK := Lib.hid (HK.out.step hkk)
              have f0 := hkk.cell HF.out.1
              have f1 := hkk.cell HF.out.2.1
              have f2 := hkk.cell HF.out.2.2
              have HH := Lib.hid hkk
              clear hrc hkk
              by_cases ha : (r : Int) < 67
              · have e1 : IntKind.i64.wrap ((i : Int) + r) = (i : Int) + r := IntWalk.i64_in _ (by omega)
                have e2 : IntKind.i64.wrap ((J : Int) + r) = (J : Int) + r := IntWalk.i64_in _ (by omega)
                have e4 := idx s ((i : Int) + r) (i + r) (by omega) (by omega)
                have e5 := idx s ((J : Int) + r) (J + r) (by omega) (by omega)
                have e6 : (0 : Int) ≤ p := by omega
                have hm := more' s i J r hJi (by omega) HR.out
                by_cases hc : s[i + r]'(by omega) = s[J + r]'(by omega)
                · have HN := Lib.hid (hm.2 hc)
                  rw [← hc] at e5
                  clear hm hc
                  generalize (s[i + r]'(by omega)).toNat = x at e4 e5
                  go_wp2
                  go_quiet (fail)
                  go_wp2
                  go_roundw
                  case rel => exact ⟨r + 1, by omega, by omega, HN.out, by go_num, HH.out.drewN _⟩
                  case measure => (simp [intOf]) <;> omega
                · have HN : Hid (mlen s.data.toList i (i - J) = r) := mlen_at hJi HL.out hrl HR.out (.inr fun h => hc (hm.1 h))
                  have hne : ¬ (s[i + r]'(by omega)).toNat = (s[J + r]'(by omega)).toNat := fun h => hc (UInt8.toNat_inj.1 h)
                  clear hm hc
                  generalize (s[i + r]'(by omega)).toNat = x at e4 hne
                  generalize (s[J + r]'(by omega)).toNat = y at e5 hne
                  have hne' : ((x : Int) == (y : Int)) = false := by simp; omega
                  clear hne
                  go_wp2
                  go_quiet (fail)
                  by_cases hbig : n < r
                  · have HS : Hid (among s.data.toList i (xs.drop p) = (i - J, r)) := by
                      rw [fold_at (by omega), HD.out, ← HJ.out]; unfold step; rw [HN.out]; exact if_pos hbig
                    go_wp2
                    go_roundw
                    case rel => exact ⟨p, _, by omega, rfl, rfl, by (rw [HS.out]) <;> go_num, by (rw [HS.out]) <;> rfl, HKK.out.drewN _⟩
                    case measure => (simp [intOf]) <;> omega
                  · have HS : Hid (among s.data.toList i (xs.drop p) = (d, n)) := by
                      rw [fold_at (by omega), HD.out, ← HJ.out]; unfold step; rw [HN.out]; exact if_neg hbig
                    go_wp2
                    go_roundw
                    case rel => exact ⟨p, _, by omega, rfl, rfl, by (rw [HS.out]) <;> rfl, by (rw [HS.out]) <;> rfl, HKK.out.drewN _⟩
                    case measure => (simp [intOf]) <;> omega
              · have HN : Hid (mlen s.data.toList i (i - J) = r) := mlen_at hJi HL.out hrl HR.out (.inl (by omega))
                have ha' : decide ((r : Int) < 67) = false := by simpa using ha
                have ha2 : decide (r < 67) = false := by simp; omega
                go_wp2
                go_quiet (fail)
                by_cases hbig : n < r
                · have HS : Hid (among s.data.toList i (xs.drop p) = (i - J, r)) := by
                    rw [fold_at (by omega), HD.out, ← HJ.out]; unfold step; rw [HN.out]; exact if_pos hbig
                  go_wp2
                  go_roundw
                  case rel => exact ⟨p, _, by omega, rfl, rfl, by (rw [HS.out]) <;> go_num, by (rw [HS.out]) <;> rfl, HKK.out.drewN _⟩
                  case measure => (simp [intOf]) <;> omega
                · have HS : Hid (among s.data.toList i (xs.drop p) = (d, n)) := by
                    rw [fold_at (by omega), HD.out, ← HJ.out]; unfold step; rw [HN.out]; exact if_neg hbig
                  go_wp2
                  go_roundw
                  case rel => exact ⟨p, _, by omega, rfl, rfl, by (rw [HS.out]) <;> rfl, by (rw [HS.out]) <;> rfl, HKK.out.drewN _⟩
                  case measure => (simp [intOf]) <;> omega
  · have HM : Hid (mat s.data.toList i = (0, 0)) := mat_none (grp_no s i (by omega))
    have HG := Lib.hid (group_none wb s i w c0 hs (by omega) (by omega) (by omega))
    clear hg h
    go_enter Try.func49, Try.ntmps49
    go_wp2_with (go_at_call 53; refine HG.out.mono ?_; rintro e w' ⟨rfl, rfl⟩)
    go_ret2
    exact ⟨by rw [HM.out]; rfl, Held.refl _⟩
end Cp
end Go.Proofs.Ytgfbfmgdlbdlhaa
