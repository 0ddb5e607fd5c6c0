/-
  Contracts of compression (chapter 20), part C: the window's best match.
  Contracts of compression (chapter 20), part D: Compress, the program's and the reference's.
  Contracts of compression (chapter 20), part E: Decompress, the program's and the reference's.
-/
import Derived.Test.YthpjbffhdaaibaaZ4
import Derived.Test.YthpjbffhdaaibaaZ2
import Derived.Test.YthpjbffhdaaibaaZ3
import Derived.Test.YthpjbffhdaaibaaZ1
import Derived.BigQuiet
import Derived.Deep.QuietTactic
import Derived.Outline
set_option linter.unusedVariables false
set_option maxRecDepth 100000
namespace Go.Proofs.Ythpjbffhdaaibaa
open Go.RowKit
open By
namespace Cp
theorem more' (s : ByteArray) (i j m : Nat) (hj : j < i) (h : i + m < s.size) (hm : m ≤ lcp (s.data.toList.drop i) (s.data.toList.drop j)) :
    m < lcp (s.data.toList.drop i) (s.data.toList.drop j) ↔ s[i + m] = s[j + m] := by
  rw [lcp_next hm, at_drop s i m h, at_drop s j m (by omega)]
  constructor
  · rintro ⟨c, h1, h2⟩; injection h1 with h1; injection h2 with h2; rw [h1, h2]
  · intro e; exact ⟨_, rfl, by rw [e]⟩
theorem mem_pos {s g : List UInt8} {i j : Nat} (h : j ∈ pos s g i) : j < i ∧ i - 255 ≤ j ∧ grp s j = some g := by
  unfold pos occ at h
  rw [List.mem_filter, List.mem_range'] at h
  obtain ⟨⟨k, hk, rfl⟩, h2⟩ := h
  exact ⟨by omega, by omega, by simpa using h2⟩
theorem fold_at {s : List UInt8} {i p : Nat} {xs : List Nat} (h : p < xs.length) : among s i (xs.drop p) = step s i xs[p] (among s i (xs.drop (p + 1))) := by
  rw [List.drop_eq_getElem_cons h]; rfl
theorem fold_full {s : List UInt8} {i q : Nat} {xs : List Nat} (h : min 67 (s.length - i) ≤ (among s i (xs.drop q)).2) : among s i xs = among s i (xs.drop q) := by
  conv => lhs; rw [← List.take_append_drop q xs, among_append]
  exact among_full _ h _
theorem mlen_at {s : List UInt8} {i j r lim : Nat} (hj : j < i) (hlim : lim = min 67 (s.length - i)) (h1 : r ≤ lim) (h2 : r ≤ lcp (s.drop i) (s.drop j)) (h3 : r = lim ∨ ¬ r < lcp (s.drop i) (s.drop j)) : mlen s i (i - j) = r := by
  unfold mlen
  rw [show i - (i - j) = j by omega]
  have := lcp_le (s.drop i) (s.drop j)
  rw [List.length_drop] at this
  omega
set_option maxHeartbeats 4000000 in
theorem match_any (wb m : Nat) (s : ByteArray) (F : Nat → Prop) (w0 w : World) (i : Nat) (hs : (s.size : Int) ≤ 1099511627776) (hi : i ≤ s.size) (h : Mv wb m s F w0 i (fun g => pos s.data.toList g i) w) :
    Calls Try.prog 58 #[.pointer (some ⟨wb, 0, none⟩), .int .i64 i] w fun e w' => e = .returned (.tuple #[.int .i64 (mat s.data.toList i).1, .int .i64 (mat s.data.toList i).2]) ∧ Held w w' := by
  obtain ⟨c0, c1, c2, c3⟩ := h.cells
  by_cases hg : i + 4 ≤ s.size
  · obtain ⟨F', ⟨es, cl, V, hI⟩, hF'⟩ := h.win
    obtain ⟨k, hk⟩ : ∃ k, k = s.extract i (i + 4) := ⟨_, rfl⟩
    have hks : k.size ≤ maxLen := by rw [hk]; unfold maxLen; simp; omega
    have hgk : grp s.data.toList i = some k.data.toList := by rw [hk]; exact grp_ex s i hg
    have HG := Lib.hid (group_key wb s k i w c0 hs hg hk)
    have hlk := hI.look (Pr := Try.prog) (kt := 9) (t := 110) Try.underlying9 Try.underlying110 zero_ints k hks (w' := w) rfl
    obtain ⟨xs, hxs⟩ : ∃ xs, xs = pos s.data.toList k.data.toList i := ⟨_, rfl⟩
    obtain ⟨A, cap, hv, hcap, hcell⟩ : ∃ A cap, Win.val V k = .slice A xs.length cap ∧ xs.length ≤ cap ∧ ∀ p (h : p < xs.length), ∃ b off, A = some ⟨b, off, none⟩ ∧ w.cell? ⟨b, off + p, none⟩ = some (.int .i64 (xs[p] : Int)) := by
      subst hxs
      rcases hI.val_is k with ⟨h1, h2, _⟩ | ⟨b, _, _, _, off, cap, cells, h3, h4, h5, _, _, h8⟩
      · refine ⟨none, 0, by rw [h1, h2]; rfl, by rw [h2]; simp, fun p hp => ?_⟩
        rw [h2] at hp; simp at hp
      · exact ⟨_, cap, h3, h5, fun p hp => ⟨b, off, rfl, by simp only [World.cell?, h4]; exact h8 p hp⟩⟩
    rw [hv] at hlk
    have HA : Hid (among s.data.toList i xs = mat s.data.toList i) := by rw [hxs]; exact among_pos hgk
    have HX : Hid (∀ p (h : p < xs.length), xs[p] < i ∧ 4 ≤ lcp (s.data.toList.drop i) (s.data.toList.drop xs[p])) := by
      intro p hp
      have h1 := mem_pos (s := s.data.toList) (g := k.data.toList) (i := i) (j := xs[p]) (by rw [← hxs]; exact List.getElem_mem hp)
      exact ⟨h1.1, (grp_iff (by rw [size_len]; exact hg) (by omega)).1 (by rw [h1.2.2, hgk])⟩
    have hxl : xs.length ≤ 255 := by rw [hxs]; exact pos_len _ _ _
    have HC := Lib.hid hcell
    clear hcell hxs hgk hk hv hI hF' hks h
    have hsi : (i : Int) + 4 ≤ s.size := by omega
    obtain ⟨lim, hlim⟩ : ∃ lim : Nat, lim = min 67 (s.data.toList.length - i) := ⟨_, rfl⟩
    have HL := Lib.hid hlim
    rw [size_len] at hlim
    have hl4 : 4 ≤ lim ∧ lim ≤ 67 ∧ i + lim ≤ s.size := by omega
    have hmin : Value.int .i64 (min (67 : Int) ((s.size : Int) - i)) = .int .i64 lim := by congr 1; omega
    by_cases h67 : (s.size : Int) - i < 67
    · have hl2 : (s.size : Int) - i = lim := by omega
      clear hlim hmin
      go_enter Try.func58, Try.ntmps58
      go_wp2_with (go_at_call 79; refine HG.out.mono ?_; rintro e w' ⟨rfl, rfl⟩)
      clear hl2 h67
      go_loopw [9, 10, 12] (fun d n k wr => ∃ (q : Nat) (z : Int), q ≤ xs.length ∧ k = .int .i64 z ∧ z = (q : Int) - 1 ∧ d = .int .i64 (among s.data.toList i (xs.drop q)).1 ∧ n = .int .i64 (among s.data.toList i (xs.drop q)).2 ∧ Held w wr) (fun _ _ k _ => (intOf k + 1).toNat)
      case atStart => exact ⟨xs.length, _, Nat.le_refl _, rfl, rfl, by simp [among], by simp [among], Held.refl _⟩
      case round =>
        obtain ⟨q, z, hq, rfl, hz, rfl, rfl, hk⟩ := hrel
        have HK := Lib.hid hk
        have f0 := hk.cell c0
        have f1 := hk.cell c1
        clear hk
        by_cases h0 : q = 0
        · subst h0
          obtain rfl : z = -1 := by omega
          have HA' : Hid (among s.data.toList i (xs.drop 0) = mat s.data.toList i) := HA.out
          generalize among s.data.toList i (xs.drop 0) = dn at HA'
          clear hz
          go_wp2
          go_ret2
          exact ⟨by rw [← HA'.out]; rfl, HK.out⟩
        · obtain ⟨p, rfl⟩ : ∃ p, q = p + 1 := ⟨q - 1, by omega⟩
          obtain rfl : z = p := by omega
          clear hz h0
          obtain ⟨⟨d, n⟩, hdn⟩ : ∃ dn, among s.data.toList i (xs.drop (p + 1)) = dn := ⟨_, rfl⟩
          have HD := Lib.hid hdn
          rw [hdn]
          clear hdn
          by_cases hfull : (lim : Int) ≤ n
          · have HF : Hid (mat s.data.toList i = (d, n)) := by
              show _ = _
              rw [← HA.out, fold_full (q := p + 1) (by rw [HD.out, ← HL.out]; show lim ≤ n; omega), HD.out]
            go_wp2
            go_ret2
            exact ⟨by rw [HF.out]; rfl, HK.out⟩
          · have hfull' : (n : Int) < lim := by omega
            obtain ⟨b, off, hA, hcj⟩ := HC.out p (by omega)
            subst hA
            obtain ⟨J, hJ⟩ : ∃ J, J = xs[p]'(by omega) := ⟨_, rfl⟩
            rw [← hJ] at hcj
            have hJx := HX.out p (by omega)
            rw [← hJ] at hJx
            obtain ⟨hJi, hJ4⟩ := hJx
            have HJ := Lib.hid hJ
            clear hJ
            have HJ4 := Lib.hid hJ4
            clear hJ4
            have f2 := HK.out.cell hcj
            have HF := Lib.hid (And.intro f0 (And.intro f1 f2))
            clear hcj hfull f0 f1 f2
            have hp1 : (p : Int) < xs.length := by omega
            go_wp2
            obtain ⟨wA, hwA⟩ : ∃ wA : World, wA = wr := ⟨_, rfl⟩
            rw [← hwA] at HK HF ⊢
            clear hwA
            go_loopw [13] (fun v wr => ∃ r : Nat, 4 ≤ r ∧ r ≤ lim ∧ r ≤ lcp (s.data.toList.drop i) (s.data.toList.drop J) ∧ v = .int .i64 r ∧ Held wA wr) (fun v _ => lim - (intOf v).toNat)
            case atStart => exact ⟨4, by omega, by omega, HJ4.out, rfl, Held.refl _⟩
            case round =>
              obtain ⟨r, hr4, hrl, hrc, rfl, hkk⟩ := hrel
              have HR := Lib.hid hrc
              have HKK := Lib.hid (HK.out.step hkk)
              have f0 := hkk.cell HF.out.1
              have f1 := hkk.cell HF.out.2.1
              have f2 := hkk.cell HF.out.2.2
              have HH := Lib.hid hkk
              clear hrc hkk
              by_cases ha : (r : Int) < lim
              · have e1 : IntKind.i64.wrap ((i : Int) + r) = (i : Int) + r := IntWalk.i64_in _ (by omega)
                have e2 : IntKind.i64.wrap ((J : Int) + r) = (J : Int) + r := IntWalk.i64_in _ (by omega)
                have e4 := idx s ((i : Int) + r) (i + r) (by omega) (by omega)
                have e5 := idx s ((J : Int) + r) (J + r) (by omega) (by omega)
                have e6 : (0 : Int) ≤ p := by omega
                have hm := more' s i J r hJi (by omega) HR.out
                by_cases hc : s[i + r]'(by omega) = s[J + r]'(by omega)
                · have HN := Lib.hid (hm.2 hc)
                  rw [← hc] at e5
                  clear hm hc
                  generalize (s[i + r]'(by omega)).toNat = x at e4 e5
                  go_wp2
                  go_quiet (fail)
                  go_wp2
                  go_roundw
                  case rel => exact ⟨r + 1, by omega, by omega, HN.out, by go_num, HH.out.drewN _⟩
                  case measure => (simp [intOf]) <;> omega
                · have HN : Hid (mlen s.data.toList i (i - J) = r) := mlen_at hJi HL.out hrl HR.out (.inr fun h => hc (hm.1 h))
                  have hne : ¬ (s[i + r]'(by omega)).toNat = (s[J + r]'(by omega)).toNat := fun h => hc (UInt8.toNat_inj.1 h)
                  clear hm hc
                  generalize (s[i + r]'(by omega)).toNat = x at e4 hne
                  generalize (s[J + r]'(by omega)).toNat = y at e5 hne
                  have hne' : ((x : Int) == (y : Int)) = false := by simp; omega
                  clear hne
                  go_wp2
                  go_quiet (fail)
                  by_cases hbig : n < r
                  · have HS : Hid (among s.data.toList i (xs.drop p) = (i - J, r)) := by
                      rw [fold_at (by omega), HD.out, ← HJ.out]; unfold step; rw [HN.out]; exact if_pos hbig
                    go_wp2
                    go_roundw
                    case rel => exact ⟨p, _, by omega, rfl, rfl, by (rw [HS.out]) <;> go_num, by (rw [HS.out]) <;> rfl, HKK.out.drewN _⟩
                    case measure => (simp [intOf]) <;> omega
                  · have HS : Hid (among s.data.toList i (xs.drop p) = (d, n)) := by
                      rw [fold_at (by omega), HD.out, ← HJ.out]; unfold step; rw [HN.out]; exact if_neg hbig
                    go_wp2
                    go_roundw
                    case rel => exact ⟨p, _, by omega, rfl, rfl, by (rw [HS.out]) <;> rfl, by (rw [HS.out]) <;> rfl, HKK.out.drewN _⟩
                    case measure => (simp [intOf]) <;> omega
              · have HN : Hid (mlen s.data.toList i (i - J) = r) := mlen_at hJi HL.out hrl HR.out (.inl (by omega))
                have ha' : decide ((r : Int) < lim) = false := by simpa using ha
                have ha2 : decide (r < lim) = false := by simp; omega
                go_wp2
                go_quiet (fail)
                by_cases hbig : n < r
                · have HS : Hid (among s.data.toList i (xs.drop p) = (i - J, r)) := by
                    rw [fold_at (by omega), HD.out, ← HJ.out]; unfold step; rw [HN.out]; exact if_pos hbig
                  go_wp2
                  go_roundw
                  case rel => exact ⟨p, _, by omega, rfl, rfl, by (rw [HS.out]) <;> go_num, by (rw [HS.out]) <;> rfl, HKK.out.drewN _⟩
                  case measure => (simp [intOf]) <;> omega
                · have HS : Hid (among s.data.toList i (xs.drop p) = (d, n)) := by
                    rw [fold_at (by omega), HD.out, ← HJ.out]; unfold step; rw [HN.out]; exact if_neg hbig
                  go_wp2
                  go_roundw
                  case rel => exact ⟨p, _, by omega, rfl, rfl, by (rw [HS.out]) <;> rfl, by (rw [HS.out]) <;> rfl, HKK.out.drewN _⟩
                  case measure => (simp [intOf]) <;> omega
    · obtain rfl : lim = 67 := by omega
      have hl2 : True := trivial
      clear hlim hmin
      go_enter Try.func58, Try.ntmps58
      go_wp2_with (go_at_call 79; refine HG.out.mono ?_; rintro e w' ⟨rfl, rfl⟩)
      clear hl2 h67
      go_loopw [9, 10, 12] (fun d n k wr => ∃ (q : Nat) (z : Int), q ≤ xs.length ∧ k = .int .i64 z ∧ z = (q : Int) - 1 ∧ d = .int .i64 (among s.data.toList i (xs.drop q)).1 ∧ n = .int .i64 (among s.data.toList i (xs.drop q)).2 ∧ Held w wr) (fun _ _ k _ => (intOf k + 1).toNat)
      case atStart => exact ⟨xs.length, _, Nat.le_refl _, rfl, rfl, by simp [among], by simp [among], Held.refl _⟩
      case round =>
        obtain ⟨q, z, hq, rfl, hz, rfl, rfl, hk⟩ := hrel
        have HK := Lib.hid hk
        have f0 := hk.cell c0
        have f1 := hk.cell c1
        clear hk
        by_cases h0 : q = 0
        · subst h0
          obtain rfl : z = -1 := by omega
          have HA' : Hid (among s.data.toList i (xs.drop 0) = mat s.data.toList i) := HA.out
          generalize among s.data.toList i (xs.drop 0) = dn at HA'
          clear hz
          go_wp2
          go_ret2
          exact ⟨by rw [← HA'.out]; rfl, HK.out⟩
        · obtain ⟨p, rfl⟩ : ∃ p, q = p + 1 := ⟨q - 1, by omega⟩
          obtain rfl : z = p := by omega
          clear hz h0
          obtain ⟨⟨d, n⟩, hdn⟩ : ∃ dn, among s.data.toList i (xs.drop (p + 1)) = dn := ⟨_, rfl⟩
          have HD := Lib.hid hdn
          rw [hdn]
          clear hdn
          by_cases hfull : (67 : Int) ≤ n
          · have HF : Hid (mat s.data.toList i = (d, n)) := by
              show _ = _
              rw [← HA.out, fold_full (q := p + 1) (by rw [HD.out, ← HL.out]; show 67 ≤ n; omega), HD.out]
            go_wp2
            go_ret2
            exact ⟨by rw [HF.out]; rfl, HK.out⟩
          · have hfull' : (n : Int) < 67 := by omega
            obtain ⟨b, off, hA, hcj⟩ := HC.out p (by omega)
            subst hA
            obtain ⟨J, hJ⟩ : ∃ J, J = xs[p]'(by omega) := ⟨_, rfl⟩
            rw [← hJ] at hcj
            have hJx := HX.out p (by omega)
            rw [← hJ] at hJx
            obtain ⟨hJi, hJ4⟩ := hJx
            have HJ := Lib.hid hJ
            clear hJ
            have HJ4 := Lib.hid hJ4
            clear hJ4
            have f2 := HK.out.cell hcj
            have HF := Lib.hid (And.intro f0 (And.intro f1 f2))
            clear hcj hfull f0 f1 f2
            have hp1 : (p : Int) < xs.length := by omega
            go_wp2
            obtain ⟨wA, hwA⟩ : ∃ wA : World, wA = wr := ⟨_, rfl⟩
            rw [← hwA] at HK HF ⊢
            clear hwA
            go_loopw [13] (fun v wr => ∃ r : Nat, 4 ≤ r ∧ r ≤ 67 ∧ r ≤ lcp (s.data.toList.drop i) (s.data.toList.drop J) ∧ v = .int .i64 r ∧ Held wA wr) (fun v _ => 67 - (intOf v).toNat)
            case atStart => exact ⟨4, by omega, by omega, HJ4.out, rfl, Held.refl _⟩
            case round =>
              obtain ⟨r, hr4, hrl, hrc, rfl, hkk⟩ := hrel
              have HR := Lib.hid hrc
              have HKK := Lib.hid (HK.out.step hkk)
              have f0 := hkk.cell HF.out.1
              have f1 := hkk.cell HF.out.2.1
              have f2 := hkk.cell HF.out.2.2
              have HH := Lib.hid hkk
              clear hrc hkk
              by_cases ha : (r : Int) < 67
              · have e1 : IntKind.i64.wrap ((i : Int) + r) = (i : Int) + r := IntWalk.i64_in _ (by omega)
                have e2 : IntKind.i64.wrap ((J : Int) + r) = (J : Int) + r := IntWalk.i64_in _ (by omega)
                have e4 := idx s ((i : Int) + r) (i + r) (by omega) (by omega)
                have e5 := idx s ((J : Int) + r) (J + r) (by omega) (by omega)
                have e6 : (0 : Int) ≤ p := by omega
                have hm := more' s i J r hJi (by omega) HR.out
                by_cases hc : s[i + r]'(by omega) = s[J + r]'(by omega)
                · have HN := Lib.hid (hm.2 hc)
                  rw [← hc] at e5
                  clear hm hc
                  generalize (s[i + r]'(by omega)).toNat = x at e4 e5
                  go_wp2
                  go_quiet (fail)
                  go_wp2
                  go_roundw
                  case rel => exact ⟨r + 1, by omega, by omega, HN.out, by go_num, HH.out.drewN _⟩
                  case measure => (simp [intOf]) <;> omega
                · have HN : Hid (mlen s.data.toList i (i - J) = r) := mlen_at hJi HL.out hrl HR.out (.inr fun h => hc (hm.1 h))
                  have hne : ¬ (s[i + r]'(by omega)).toNat = (s[J + r]'(by omega)).toNat := fun h => hc (UInt8.toNat_inj.1 h)
                  clear hm hc
                  generalize (s[i + r]'(by omega)).toNat = x at e4 hne
                  generalize (s[J + r]'(by omega)).toNat = y at e5 hne
                  have hne' : ((x : Int) == (y : Int)) = false := by simp; omega
                  clear hne
                  go_wp2
                  go_quiet (fail)
                  by_cases hbig : n < r
                  · have HS : Hid (among s.data.toList i (xs.drop p) = (i - J, r)) := by
                      rw [fold_at (by omega), HD.out, ← HJ.out]; unfold step; rw [HN.out]; exact if_pos hbig
                    go_wp2
                    go_roundw
                    case rel => exact ⟨p, _, by omega, rfl, rfl, by (rw [HS.out]) <;> go_num, by (rw [HS.out]) <;> rfl, HKK.out.drewN _⟩
                    case measure => (simp [intOf]) <;> omega
                  · have HS : Hid (among s.data.toList i (xs.drop p) = (d, n)) := by
                      rw [fold_at (by omega), HD.out, ← HJ.out]; unfold step; rw [HN.out]; exact if_neg hbig
                    go_wp2
                    go_roundw
                    case rel => exact ⟨p, _, by omega, rfl, rfl, by (rw [HS.out]) <;> rfl, by (rw [HS.out]) <;> rfl, HKK.out.drewN _⟩
                    case measure => (simp [intOf]) <;> omega
              · have HN : Hid (mlen s.data.toList i (i - J) = r) := mlen_at hJi HL.out hrl HR.out (.inl (by omega))
                have ha' : decide ((r : Int) < 67) = false := by simpa using ha
                have ha2 : decide (r < 67) = false := by simp; omega
                go_wp2
                go_quiet (fail)
                by_cases hbig : n < r
                · have HS : Hid (among s.data.toList i (xs.drop p) = (i - J, r)) := by
                    rw [fold_at (by omega), HD.out, ← HJ.out]; unfold step; rw [HN.out]; exact if_pos hbig
                  go_wp2
                  go_roundw
                  case rel => exact ⟨p, _, by omega, rfl, rfl, by (rw [HS.out]) <;> go_num, by (rw [HS.out]) <;> rfl, HKK.out.drewN _⟩
                  case measure => (simp [intOf]) <;> omega
                · have HS : Hid (among s.data.toList i (xs.drop p) = (d, n)) := by
                    rw [fold_at (by omega), HD.out, ← HJ.out]; unfold step; rw [HN.out]; exact if_neg hbig
                  go_wp2
                  go_roundw
                  case rel => exact ⟨p, _, by omega, rfl, rfl, by (rw [HS.out]) <;> rfl, by (rw [HS.out]) <;> rfl, HKK.out.drewN _⟩
                  case measure => (simp [intOf]) <;> omega
  · have HM : Hid (mat s.data.toList i = (0, 0)) := mat_none (grp_no s i (by omega))
    have HG := Lib.hid (group_none wb s i w c0 hs (by omega) (by omega) (by omega))
    clear hg h
    go_enter Try.func58, Try.ntmps58
    go_wp2_with (go_at_call 79; refine HG.out.mono ?_; rintro e w' ⟨rfl, rfl⟩)
    go_ret2
    exact ⟨by rw [HM.out]; rfl, Held.refl _⟩
end Cp
end Go.Proofs.Ythpjbffhdaaibaa

set_option linter.unusedVariables false
set_option maxRecDepth 100000
namespace Go.Proofs.Ythpjbffhdaaibaa
open Go.RowKit
open By
namespace Cp
theorem lits_len : ∀ (n : Nat) (l : List UInt8), l.length ≤ n → (lits l).length = l.length + (l.length + 127) / 128
  | 0, [], _ => rfl
  | 0, _ :: _, h => by simp at h
  | n + 1, l, h => by
    by_cases h0 : l.length = 0
    · rw [List.eq_nil_of_length_eq_zero h0]; rfl
    · rw [lits_step (by omega), List.length_cons, List.length_append, lits_len n (l.drop (min 128 l.length)) (by rw [List.length_drop]; omega), List.length_take, List.length_drop]
      omega
theorem lits_le (l : List UInt8) : (lits l).length ≤ 2 * l.length := by
  rw [lits_len _ l (Nat.le_refl _)]
  by_cases h : l.length = 0
  · rw [h]; decide
  · omega
theorem own_block {w w' : World} {base : Nat} {e : TypeId} {size n : Nat} {v : Value} {xs : List Value} (h : w.ownsRow base e size v n xs) (hb : ∀ g, v.ownBlock = some g → w'.heap[g]? = w.heap[g]?) : w'.ownsRow base e size v n xs := by
  refine ⟨h.1, h.2.imp id ?_⟩
  rintro ⟨g, cap, cur, rfl, h1, h2, h3⟩
  exact ⟨g, cap, cur, rfl, h1, (hb g rfl).trans h2, h3⟩
/-- Compress on its way: the window at n, the bytes l in the slice o. -/
structure Cst (W : World) (wb m : Nat) (s : ByteArray) (n : Nat) (o : Value) (l : List UInt8) (w : World) : Prop where
  blk : w.heap[wb]? = some (.cells #[.string s, .map (some m), .int .i64 (n : Int)] 112 (0, 0))
  win : ∃ F, Win.Win 3 w m F (fun g => pos s.data.toList g n) ∧ ¬ F wb ∧ (∀ b, F b → W.heap.size ≤ b) ∧ ∀ g, o.ownBlock = some g → ¬ F g ∧ g ≠ wb
  own : w.ownsRow W.heap.size 5 1 o l.length (by8 l)
  hwb : W.heap.size ≤ wb
  held : Held W w
namespace Cst
variable {W w : World} {wb m n : Nat} {s : ByteArray} {o : Value} {l : List UInt8}
theorem lt (h : Cst W wb m s n o l w) : wb < w.heap.size := (Array.getElem?_eq_some_iff.1 h.blk).1
theorem own_lt (h : Cst W wb m s n o l w) : ∀ g, o.ownBlock = some g → g < w.heap.size := fun g hg => (World.ownsRow.lt h.own g hg).2
theorem moved {w' : World} {F : Nat → Prop} (h : Cst W wb m s n o l w) {i : Nat} (hF : ¬ F wb) (hB : ∀ b, F b → W.heap.size ≤ b) (ho : ∀ g, o.ownBlock = some g → ¬ F g ∧ g ≠ wb) (hm : Mv wb m s F w i (fun g => pos s.data.toList g i) w') : Cst W wb m s i o l w' := by
  obtain ⟨F', hw', hF'⟩ := hm.win
  have hle := h.held.le
  have hlt := h.lt
  refine ⟨hm.blk, ⟨F', hw', fun hb => ?_, fun b hb => ?_, fun g hg => ?_⟩, own_block h.own (fun g hg => hm.kept.block g (h.own_lt g hg) ?_), h.hwb, hm.kept.held h.held ?_⟩
  · rcases hF' wb hb with h1 | h1
    · exact hF h1
    · omega
  · rcases hF' b hb with h1 | h1
    · exact hB b h1
    · omega
  · refine ⟨fun hb => ?_, (ho g hg).2⟩
    rcases hF' g hb with h1 | h1
    · exact (ho g hg).1 h1
    · have := h.own_lt g hg; omega
  · rintro (h1 | h1)
    · exact (ho g hg).1 h1
    · exact (ho g hg).2 h1
  · rintro x (h1 | rfl)
    · exact hB x h1
    · exact h.hwb
theorem out {w' : World} {o' : Value} {l' : List UInt8} (h : Cst W wb m s n o l w) (hk : Win.Kept (fun x => some x = o.ownBlock) w w') (hm : Moved w o o') (hown : w'.ownsRow W.heap.size 5 1 o' l'.length (by8 l')) : Cst W wb m s n o' l' w' := by
  obtain ⟨F, ⟨es, c, V, hI⟩, hF, hB, ho⟩ := h.win
  have hlt := h.lt
  refine ⟨(hk.block wb h.lt (fun e => (ho wb e.symm).2 rfl)).trans h.blk, ⟨F, ⟨es, c, V, hI.kept hk (fun b hb e => (ho b e.symm).1 hb)⟩, hF, hB, fun g hg => ?_⟩, hown, h.hwb, hk.held h.held ?_⟩
  · rcases hm g hg with h1 | h1
    · exact ho g h1
    · refine ⟨fun hb => ?_, by omega⟩
      have := hI.lt g hb; omega
  · intro x hx
    exact (World.ownsRow.lt h.own x hx.symm).1
theorem keep {w' : World} (h : Cst W wb m s n o l w) (hk : Held w w') : Cst W wb m s n o l w' :=
  h.out (Win.Kept.of_held hk) (Moved.refl _ _) (own_block h.own (fun g hg => hk.block g (h.own_lt g hg)))
theorem mv (h : Cst W wb m s n o l w) (F : Nat → Prop) (hw : Win.Win 3 w m F (fun g => pos s.data.toList g n)) : Mv wb m s F w n (fun g => pos s.data.toList g n) w :=
  ⟨h.blk, ⟨F, hw, fun _ h => .inl h⟩, Win.Kept.refl _ _⟩
end Cst
theorem cst_start (W : World) (s : ByteArray) : Cst W (W.heap.size + 1) W.heap.size s 0 (.slice none 0 0) [] ((W.alloc (.map #[] 0)).alloc (.cells #[.string s, .map (some W.heap.size), .int .i64 0] 112)) := by
  have hw := Win.Win.made (e := 3) W
  obtain ⟨es, c, V, hI⟩ := hw
  refine ⟨?_, ⟨_, ⟨es, c, V, hI.held ((Held.refl _).alloc _)⟩, by simp, fun b hb => by subst hb; exact Nat.le_refl _, fun g hg => by cases hg⟩, World.ownsRow_nil _ _ _ _, Nat.le_succ _, ((Held.refl W).alloc _).alloc _⟩
  have := heap_alloc_new (W.alloc (.map #[] 0)) (.cells #[.string s, .map (some W.heap.size), .int .i64 0] 112)
  simpa using this
theorem cst_move {W w : World} {wb m n : Nat} {s : ByteArray} {o : Value} {l : List UInt8} (h : Cst W wb m s n o l w) (i : Nat) (hs : (s.size : Int) ≤ 1099511627776) (hi : i ≤ s.size) (h0 : n ≤ i) :
    Calls Try.prog 57 #[.pointer (some ⟨wb, 0, none⟩), .int .i64 i] w fun e w' => e = .returned (.tuple #[]) ∧ Cst W wb m s i o l w' := by
  obtain ⟨F, hw, hF, hB, ho⟩ := h.win
  exact (move_any wb m s F w n i hs hF hi (h.mv F hw) h0).mono fun e w' ⟨h1, h2⟩ => ⟨h1, h.moved hF hB ho h2⟩
theorem cst_match {W w : World} {wb m : Nat} {s : ByteArray} {o : Value} {l : List UInt8} {i : Nat} (h : Cst W wb m s i o l w) (hs : (s.size : Int) ≤ 1099511627776) (hi : i ≤ s.size) (d n : Nat) (hdn : mat s.data.toList i = (d, n)) :
    Calls Try.prog 58 #[.pointer (some ⟨wb, 0, none⟩), .int .i64 i] w fun e w' => e = .returned (.tuple #[.int .i64 d, .int .i64 n]) ∧ Cst W wb m s i o l w' := by
  obtain ⟨F, hw, hF, hB, ho⟩ := h.win
  refine (match_any wb m s F w w i hs hi (h.mv F hw)).mono fun e w' ⟨h1, h2⟩ => ⟨?_, h.keep h2⟩
  rw [h1, hdn]
theorem cst_lits {W w : World} {wb m n : Nat} {s t : ByteArray} {o : Value} {l : List UInt8} (h : Cst W wb m s n o l w) (ht : t.size ≤ 1099511627776) (hl : l.length ≤ 10995116277760) (L : List UInt8) (hL : L = l ++ lits t.data.toList) :
    Calls Try.prog 59 #[o, .string t] w fun e w' => ∃ o', e = .returned o' ∧ Cst W wb m s n o' L w' := by
  subst hL
  refine (lits_any o l t w W.heap.size h.own h.held.le ht hl).mono ?_
  rintro e w' ⟨v', rfl, h1, h2, h3⟩
  exact ⟨v', rfl, h.out h2 h3 h1⟩
theorem slice_take (s : ByteArray) (a b : Nat) : (s.extract a b).data.toList = (s.data.toList.drop a).take (b - a) := ex_list s a b
theorem slice_drop (s : ByteArray) (a : Nat) : (s.extract a s.size).data.toList = s.data.toList.drop a := by
  rw [ex_list, List.take_of_length_le (by rw [List.length_drop, size_len]; omega)]
theorem byte_len (n : Nat) (h : n ≤ 67) : (124 : Int) + n = ((UInt8.ofNat (124 + n)).toNat : Int) := by
  simp [UInt8.toNat_ofNat']; omega
theorem byte_dist (d : Nat) (h : d ≤ 255) : (d : Int) = ((UInt8.ofNat d).toNat : Int) := by
  simp [UInt8.toNat_ofNat']; omega
set_option maxHeartbeats 4000000 in
theorem compress_any (s : ByteArray) (W : World) (hs : s.size ≤ 1099511627776) :
    Calls Try.prog 31 #[.string s] W fun e w' => e = .returned (.string ⟨(compress s.data.toList).toArray⟩) ∧ Held W w' := by
  have hs' : (s.size : Int) ≤ 1099511627776 := by omega
  have hst := cst_start W s
  have hmm := @run_makeMap Try.prog
  go_enter Try.func31, Try.ntmps31
  go_wp2
  go_loopw [4, 5, 6] (fun o st i wr => ∃ (l : List UInt8) (a b c : Nat), st = .int .i64 a ∧ i = .int .i64 b ∧ a ≤ b ∧ c ≤ b ∧ b ≤ s.size ∧ l.length ≤ 2 * a ∧ l ++ comp s.data.toList b a = compress s.data.toList ∧ Cst W (W.heap.size + 1) W.heap.size s c o l wr) (fun _ _ i _ => s.size - (intOf i).toNat)
  case atStart => exact ⟨[], 0, 0, 0, rfl, rfl, Nat.le_refl _, Nat.le_refl _, Nat.zero_le _, Nat.zero_le _, rfl, hst⟩
  case round =>
    obtain ⟨l, a, b, c, rfl, rfl, hab, hcb, hbs, hll, hcomp, hcs⟩ := hrel
    have HC := Lib.hid hcs
    have HL := Lib.hid hcomp
    clear hcs hcomp hst
    by_cases hlt : (b : Int) < s.size
    · obtain ⟨⟨d, n⟩, hdn⟩ : ∃ dn, mat s.data.toList b = dn := ⟨_, rfl⟩
      have hsp := mat_spec s.data.toList b
      rw [hdn, size_len] at hsp
      have HD := Lib.hid hdn
      clear hdn
      go_wp2_with fail
      refine (cst_move HC.out b hs' hbs hcb).mono ?_
      rintro e w1 ⟨rfl, hc1⟩
      have HC1 := Lib.hid hc1
      clear hc1
      go_wp2_with fail
      refine (cst_match HC1.out hs' hbs d n HD.out).mono ?_
      rintro e w2 ⟨rfl, hc2⟩
      have HC2 := Lib.hid hc2
      clear hc2
      by_cases hn : n = 0
      · have HS := comp_skip (s := s.data.toList) (i := b) (st := a) (by rw [size_len]; omega) (by rw [HD.out]; exact hn)
        rw [HS] at HL
        clear HS
        subst hn
        go_wp2
        go_roundw
        case rel => exact ⟨l, a, b + 1, b, rfl, by go_num, by omega, by omega, by omega, hll, HL.out, HC2.out⟩
        case measure => (simp [intOf]) <;> omega
      · have hn4 : 4 ≤ n ∧ n ≤ 67 ∧ n ≤ s.size - b ∧ 1 ≤ d ∧ d ≤ 255 := by
          rcases hsp with h1 | h1
          · injection h1 with _ h1; exact absurd h1 hn
          · exact ⟨h1.1, h1.2.1, h1.2.2.1, h1.2.2.2.1, h1.2.2.2.2.1⟩
        have HS := comp_match (s := s.data.toList) (i := b) (st := a) (by rw [size_len]; omega) (by rw [HD.out]; exact hn)
        rw [HS, HD.out, ← slice_take] at HL
        clear HS hsp
        have hn' : ((n : Int) == 0) = false := by simp; omega
        have hnn : ¬ (n : Int) = 0 := by omega
        clear hn
        have hlits := lits_le (s.extract a b).data.toList
        rw [slice_take, List.length_take, List.length_drop, size_len, ← slice_take] at hlits
        go_wp2_with fail
        refine (cst_lits HC2.out (t := s.extract a b) (by simp; omega) (by omega) _ rfl).mono ?_
        rintro e w3 ⟨o3, rfl, hc3⟩
        have HC3 := Lib.hid hc3
        have hown3 := hc3.own
        have hb3 := hc3.held.le
        clear hc3
        have hL3 : (l ++ lits (s.extract a b).data.toList).length ≤ 2 * b := by rw [List.length_append]; omega
        generalize hM : l ++ lits (s.extract a b).data.toList = M at *
        have HM := Lib.hid hM
        clear hM
        go_wp2_with (at_builtin; refine app_u8M _ rfl _ _ rfl W.heap.size _ M [UInt8.ofNat (124 + n), UInt8.ofNat d] ⟨w3.heap.size, 0, none⟩ 2 2 rfl (hown3.alloc _) rfl rfl (two_cells _ _ _ _ _ (byte_len n (by omega)) (byte_dist d (by omega)) _) (by omega) (by simp; omega) ?_; intro o4 w4 hown4 hg4 hm4)
        go_roundw
        case rel =>
          have hk4 := grown_kept (Win.Kept.refl _ _) (Moved.refl _ _) hg4 hm4
          refine ⟨M ++ [UInt8.ofNat (124 + n), UInt8.ofNat d], b + n, b + n, b, by go_num, by go_num, Nat.le_refl _, by omega, by omega, by simp; omega, ?_, HC3.out.out hk4.1 hk4.2 hown4⟩
          rw [← HL.out, ← HM.out]; simp
        case measure => (simp [intOf]) <;> omega
    · have hbe : b = s.size := by omega
      subst hbe
      rw [comp_end (by rw [size_len]; exact Nat.le_refl _), ← slice_drop] at HL
      go_wp2_with fail
      refine (cst_lits HC.out (t := s.extract a s.size) (by simp; omega) (by omega) _ rfl).mono ?_
      rintro e w3 ⟨o3, rfl, hc3⟩
      have hcv := conv_own hc3.own
      rw [HL.out] at hcv
      have HH := Lib.hid hc3.held
      clear hc3
      go_wp2
      go_ret
      exact ⟨rfl, HH.out⟩
end Cp
end Go.Proofs.Ythpjbffhdaaibaa

set_option linter.unusedVariables false
set_option maxRecDepth 100000
namespace Go.Proofs.Ythpjbffhdaaibaa
open Go.RowKit
open By
namespace Cp
/-- n bytes copied from d back. -/
def copyN (l : List UInt8) (d : Nat) : Nat → List UInt8
  | 0 => l
  | n + 1 => copyN l d n ++ [(copyN l d n).getD ((copyN l d n).length - d) 0]
/-- The way back: the errno, the bytes. -/
def decF (most : Nat) : Nat → List UInt8 → List UInt8 → Nat × List UInt8
  | 0, _, out => (0, out)
  | _ + 1, [], out => (0, out)
  | f + 1, c :: t, out =>
    if c.toNat < 128 then
      if t.length < c.toNat + 1 then (2000, []) else if most < out.length + (c.toNat + 1) then (2001, []) else decF most f (t.drop (c.toNat + 1)) (out ++ t.take (c.toNat + 1))
    else if c.toNat < 192 then
      match t with
      | [] => (2000, [])
      | d :: u => if d.toNat = 0 ∨ out.length < d.toNat then (2000, []) else if most < out.length + (c.toNat - 124) then (2001, []) else decF most f u (copyN out d.toNat (c.toNat - 124))
    else (2000, [])
def dec (most : Nat) (s out : List UInt8) : Nat × List UInt8 := decF most s.length s out
theorem decF_fuel (most : Nat) : ∀ (f g : Nat) (s out : List UInt8), s.length ≤ f → s.length ≤ g → decF most f s out = decF most g s out
  | 0, 0, _, _, _, _ => rfl
  | 0, g + 1, [], _, _, _ => rfl
  | 0, g + 1, _ :: _, _, h, _ => by simp at h
  | f + 1, 0, [], _, _, _ => rfl
  | f + 1, 0, _ :: _, _, _, h => by simp at h
  | f + 1, g + 1, [], _, _, _ => rfl
  | f + 1, g + 1, c :: t, out, h1, h2 => by
    simp only [List.length_cons] at h1 h2
    unfold decF
    rw [decF_fuel most f g (t.drop (c.toNat + 1)) _ (by rw [List.length_drop]; omega) (by rw [List.length_drop]; omega)]
    match t with
    | [] => rfl
    | d :: u =>
      simp only [List.length_cons] at h1 h2
      simp only
      rw [decF_fuel most f g u _ (by omega) (by omega)]
theorem dec_nil (most : Nat) (out : List UInt8) : dec most [] out = (0, out) := rfl
theorem dec_cons (most : Nat) (c : UInt8) (t out : List UInt8) : dec most (c :: t) out =
    if c.toNat < 128 then
      if t.length < c.toNat + 1 then (2000, []) else if most < out.length + (c.toNat + 1) then (2001, []) else dec most (t.drop (c.toNat + 1)) (out ++ t.take (c.toNat + 1))
    else if c.toNat < 192 then
      match t with
      | [] => (2000, [])
      | d :: u => if d.toNat = 0 ∨ out.length < d.toNat then (2000, []) else if most < out.length + (c.toNat - 124) then (2001, []) else dec most u (copyN out d.toNat (c.toNat - 124))
    else (2000, []) := by
  unfold dec
  rw [List.length_cons]
  conv => lhs; unfold decF
  rw [decF_fuel most t.length (t.drop (c.toNat + 1)).length (t.drop (c.toNat + 1)) _ (by rw [List.length_drop]; omega) (Nat.le_refl _)]
  match t with
  | [] => rfl
  | d :: u =>
    simp only
    rw [decF_fuel most (d :: u).length u.length u _ (by simp) (Nat.le_refl _)]
theorem copyN_len (l : List UInt8) (d : Nat) : ∀ n, (copyN l d n).length = l.length + n
  | 0 => rfl
  | n + 1 => by rw [copyN, List.length_append, copyN_len l d n]; rfl
theorem copyN_step (l : List UInt8) (d k : Nat) (h : (copyN l d k).length - d < (copyN l d k).length) : copyN l d (k + 1) = copyN l d k ++ [(copyN l d k)[(copyN l d k).length - d]] := by
  rw [copyN, List.getD_eq_getElem?_getD, List.getElem?_eq_getElem h]; rfl
theorem own_slice {w : World} {base : Nat} {e : TypeId} {size n : Nat} {v : Value} {xs : List Value} (h : w.ownsRow base e size v n xs) : ∃ A cap, v = .slice A n cap ∧ n ≤ cap := by
  rcases h.2 with ⟨rfl, rfl⟩ | ⟨g, cap, cur, rfl, _, _, hc, _⟩
  · exact ⟨_, _, rfl, Nat.le_refl _⟩
  · exact ⟨_, _, rfl, hc⟩
theorem own_cell {w : World} {base : Nat} {A : Option Addr} {n cap : Nat} {l : List UInt8} (h : w.ownsRow base 5 1 (.slice A n cap) l.length (by8 l)) (j : Nat) (hj : j < l.length) : ∃ g, A = some ⟨g, 0, none⟩ ∧ w.cell? ⟨g, j, none⟩ = some (.int .u8 l[j].toNat) := by
  have h' := h
  rcases h.2 with ⟨he, h0⟩ | ⟨g, cp, cur, he, _⟩
  · omega
  · injection he with e1 e2 e3
    subst e1 e2 e3
    have := h'.cellAt j (by omega)
    rw [by8_get l j hj] at this
    exact ⟨g, rfl, this⟩
theorem own_cell' {w : World} {base : Nat} {A : Option Addr} {n cap : Nat} {l : List UInt8} (h : w.ownsRow base 5 1 (.slice A n cap) l.length (by8 l)) (j : Nat) (z : UInt8) (hz : l[j]? = some z) : ∃ g, A = some ⟨g, 0, none⟩ ∧ w.cell? ⟨g, j, none⟩ = some (.int .u8 z.toNat) := by
  obtain ⟨hj, rfl⟩ := List.getElem?_eq_some_iff.1 hz
  exact own_cell h j hj
theorem size_len' (s : ByteArray) : s.data.toList.length = s.size := by simp
theorem drop_step (s : ByteArray) (i : Nat) (h : i < s.size) : s.data.toList.drop i = s[i] :: s.data.toList.drop (i + 1) := drop_at s i h
theorem ret_dec {R R' : Nat × List UInt8} (h : R = R') : Ending.returned (.tuple #[.string ⟨R.2.toArray⟩, .int .i64 (R.1 : Int)]) = .returned (.tuple #[.string ⟨R'.2.toArray⟩, .int .i64 (R'.1 : Int)]) := by rw [h]
theorem own_drewN {w : World} {base : Nat} {e : TypeId} {size n : Nat} {v : Value} {xs : List Value} (h : w.ownsRow base e size v n xs) (k : Nat) : (w.drewN k).ownsRow base e size v n xs := by
  cases k with
  | zero => exact h
  | succ k => exact h
theorem fin_lit {s : ByteArray} {i M : Nat} {l : List UInt8} (h : i < s.size) (hx : s[i].toNat < 128) : dec M (s.data.toList.drop i) l =
    if s.size - (i + 1) < s[i].toNat + 1 then (2000, []) else if M < l.length + (s[i].toNat + 1) then (2001, []) else dec M (s.data.toList.drop (i + 1 + (s[i].toNat + 1))) (l ++ (s.extract (i + 1) (i + 1 + (s[i].toNat + 1))).data.toList) := by
  rw [drop_step s i h, dec_cons, if_pos hx, List.length_drop, size_len', List.drop_drop, Lib.extract_data, show i + 1 + (s[i].toNat + 1) - (i + 1) = s[i].toNat + 1 by omega]
theorem fin_copy {s : ByteArray} {i M : Nat} {l : List UInt8} (h : i + 1 < s.size) (hx : ¬ s[i].toNat < 128) (hy : s[i].toNat < 192) : dec M (s.data.toList.drop i) l =
    if s[i + 1].toNat = 0 ∨ l.length < s[i + 1].toNat then (2000, []) else if M < l.length + (s[i].toNat - 124) then (2001, []) else dec M (s.data.toList.drop (i + 1 + 1)) (copyN l s[i + 1].toNat (s[i].toNat - 124)) := by
  rw [drop_step s i (by omega), dec_cons, if_neg hx, if_pos hy, drop_step s (i + 1) h]
theorem fin_last {s : ByteArray} {i M : Nat} {l : List UInt8} (h : i + 1 = s.size) (hx : ¬ s[i].toNat < 128) (hy : s[i].toNat < 192) : dec M (s.data.toList.drop i) l = (2000, []) := by
  rw [drop_step s i (by omega), dec_cons, if_neg hx, if_pos hy, List.drop_of_length_le (by rw [size_len']; omega)]
theorem fin_bad {s : ByteArray} {i M : Nat} {l : List UInt8} (h : i < s.size) (hx : ¬ s[i].toNat < 192) : dec M (s.data.toList.drop i) l = (2000, []) := by
  rw [drop_step s i (by omega), dec_cons, if_neg (by omega), if_neg hx]
set_option maxHeartbeats 8000000 in
theorem dec_any (s : ByteArray) (most : Int) (W : World) (hs : (s.size : Int) ≤ 1099511627776) (hm : most ≤ 9223372036854775807) :
    Calls Try.prog 33 #[.string s, .int .i64 most] W fun e w' => e = .returned (.tuple #[.string ⟨(dec most.toNat s.data.toList []).2.toArray⟩, .int .i64 ((dec most.toNat s.data.toList []).1 : Int)]) ∧ Held W w' := by
  obtain ⟨M, hM⟩ : ∃ M : Nat, M = most.toNat := ⟨_, rfl⟩
  rw [← hM]
  by_cases h0 : 0 ≤ most
  · obtain rfl : most = (M : Int) := by omega
    clear hM
    go_enter Try.func33, Try.ntmps33
    go_wp2
    go_loopw [6, 7] (fun o i wr => ∃ (l : List UInt8) (j : Nat), i = .int .i64 j ∧ j ≤ s.size ∧ l.length ≤ 67 * j ∧ dec M (s.data.toList.drop j) l = dec M s.data.toList [] ∧ wr.ownsRow W.heap.size 5 1 o l.length (by8 l) ∧ Held W wr) (fun _ i _ => s.size - (intOf i).toNat)
    case atStart => exact ⟨[], 0, rfl, Nat.zero_le _, by simp, rfl, World.ownsRow_nil _ _ _ _, Held.refl _⟩
    case round =>
      obtain ⟨l, i, rfl, hi, hl, hR, hown, hh⟩ := hrel
      obtain ⟨A, cp, rfl, hcp⟩ := own_slice hown
      have HO := Lib.hid (And.intro hown hh)
      have HR := Lib.hid hR
      have hle := hh.le
      clear hown hh hR
      by_cases hlt : i < s.size
      · obtain ⟨x, hx⟩ : ∃ x, s[i].toNat = x := ⟨_, rfl⟩
        have hx255 : x ≤ 255 := by have := s[i].toNat_lt; omega
        by_cases hx1 : x < 128
        · have hf := fin_lit (M := M) (l := l) hlt (by omega)
          rw [HR.out, hx] at hf
          by_cases he : s.size - (i + 1) < x + 1
          · rw [if_pos he] at hf
            have HF := Lib.hid hf
            have he' : (s.size : Int) - (i + 1) < x + 1 := by omega
            clear hf he
            go_wp2
            go_ret2
            exact ⟨by rw [HF.out]; rfl, HO.out.2⟩
          · rw [if_neg he] at hf
            by_cases hm2 : M < l.length + (x + 1)
            · rw [if_pos hm2] at hf
              have HF := Lib.hid hf
              have he' : ¬ (s.size : Int) - (i + 1) < x + 1 := by omega
              have hm3 : (M : Int) < l.length + (x + 1) := by omega
              clear hf he hm2
              go_wp2
              go_ret2
              exact ⟨by rw [HF.out]; rfl, HO.out.2⟩
            · first
              | (exfalso; omega)
              | (rw [if_neg hm2] at hf
                 have HF := Lib.hid hf
                 have he' : ¬ (s.size : Int) - (i + 1) < x + 1 := by omega
                 have hm3 : ¬ (M : Int) < l.length + (x + 1) := by omega
                 clear hf he hm2
                 have hown := HO.out.1
                 go_wp2_with (at_builtin; refine app_strM _ rfl _ _ rfl W.heap.size _ l (s.extract (i + 1) (i + 1 + (x + 1))) rfl hown rfl (by simp; omega) hle ?_; intro o4 w4 hown4 hg4 hm4)
                 go_roundw
                 case rel => exact ⟨l ++ (s.extract (i + 1) (i + 1 + (x + 1))).data.toList, i + 1 + (x + 1), by go_num, by omega, by simp; omega, HF.out.symm, hown4, held_grown0 HO.out.2 HO.out.1 hg4⟩
                 case measure => (simp [intOf]) <;> omega)
        · by_cases hx2 : x < 192
          · have hx2' : (x : Int) ≤ 191 := by omega
            have hd1 : decide ((x : Int) < 128) = false := by simp; omega
            by_cases hend : i + 1 = s.size
            · have HF := Lib.hid (HR.out.symm.trans (fin_last (M := M) (l := l) hend (by omega) (by omega)))
              have hend' : (i : Int) + 1 = s.size := by omega
              clear hend
              go_wp2
              go_ret2
              exact ⟨by rw [HF.out]; rfl, HO.out.2⟩
            · have hi1 : i + 1 < s.size := by omega
              have hf := fin_copy (M := M) (l := l) hi1 (by omega) (by omega)
              obtain ⟨y, hy⟩ : ∃ y, s[i + 1].toNat = y := ⟨_, rfl⟩
              have hy255 : y ≤ 255 := by have := s[i + 1].toNat_lt; omega
              have e4 := idx s ((i : Int) + 1) (i + 1) (by omega) hi1
              rw [hy] at e4 hf
              rw [HR.out, hx] at hf
              have hend' : ¬ (i : Int) + 1 = s.size := by omega
              have hend2 : ((i : Int) + 1 == (s.size : Int)) = false := by simp; omega
              clear hend
              by_cases hy0 : y = 0 ∨ l.length < y
              · rw [if_pos hy0] at hf
                have HF := Lib.hid hf
                clear hf
                by_cases hy1 : y = 0
                · subst hy1
                  clear hy0 hy
                  go_wp2
                  go_quiet (fail)
                  go_wp2
                  go_ret2
                  exact ⟨by rw [HF.out]; rfl, HO.out.2.drewN _⟩
                · have hy2 : (l.length : Int) < y := by omega
                  have hy3 : ((y : Int) == 0) = false := by simp; omega
                  have hy4 : ¬ (y : Int) = 0 := by omega
                  clear hy0 hy1
                  go_wp2
                  go_quiet (fail)
                  go_wp2
                  go_ret2
                  exact ⟨by rw [HF.out]; rfl, HO.out.2.drewN _⟩
              · rw [if_neg hy0] at hf
                have hy1 : 1 ≤ y := by omega
                have hy2 : ¬ (l.length : Int) < y := by omega
                have hy5 : decide (l.length < y) = false := by simp; omega
                have hy3 : ((y : Int) == 0) = false := by simp; omega
                have hy4 : ¬ (y : Int) = 0 := by omega
                clear hy0
                by_cases hm2 : M < l.length + (x - 124)
                · rw [if_pos hm2] at hf
                  have HF := Lib.hid hf
                  have hm3 : (M : Int) < l.length + (x - 124) := by omega
                  clear hf hm2
                  go_wp2
                  go_quiet (fail)
                  go_wp2
                  go_ret2
                  exact ⟨by rw [HF.out]; rfl, HO.out.2.drewN _⟩
                · first
                  | (exfalso; omega)
                  | (rw [if_neg hm2] at hf
                     have HF := Lib.hid hf
                     have hm3 : ¬ (M : Int) < l.length + (x - 124) := by omega
                     clear hf hm2
                     go_wp2
                     go_quiet (fail)
                     go_wp2
                     obtain ⟨wA, hwA⟩ : ∃ wA : World, wA = wr := ⟨_, rfl⟩
                     rw [← hwA] at HO ⊢
                     clear hwA
                     go_loopw [6, 82] (fun o k w2 => ∃ q : Nat, q ≤ x - 124 ∧ k = .int .i64 q ∧ w2.ownsRow W.heap.size 5 1 o (copyN l y q).length (by8 (copyN l y q)) ∧ Held W w2) (fun _ k _ => (x - 124) - (intOf k).toNat)
                     case atStart => exact ⟨0, Nat.zero_le _, rfl, own_drewN HO.out.1 _, HO.out.2.drewN _⟩
                     case round =>
                       obtain ⟨q, hq, rfl, hown2, hh2⟩ := hrel
                       obtain ⟨A2, cp2, rfl, hcp2⟩ := own_slice hown2
                       have hcl := copyN_len l y q
                       have HO2 := Lib.hid (And.intro hown2 hh2)
                       have hle2 := hh2.le
                       clear hh2
                       by_cases hq2 : q < x - 124
                       · have hq3 : (q : Int) < x - 124 := by omega
                         obtain ⟨j, hj⟩ : ∃ j, j = (copyN l y q).length - y := ⟨_, rfl⟩
                         obtain ⟨z, hz, hzj⟩ : ∃ z, copyN l y (q + 1) = copyN l y q ++ [z] ∧ (copyN l y q)[j]? = some z :=
                           ⟨_, copyN_step l y q (by omega), by rw [hj]; exact List.getElem?_eq_getElem _⟩
                         have HS := Lib.hid hz
                         clear hz
                         generalize hL2 : copyN l y q = L2 at *
                         obtain ⟨g, hA2, hc2⟩ := own_cell' hown2 j z hzj
                         subst hA2
                         have hjl : j < L2.length := (List.getElem?_eq_some_iff.1 hzj).1
                         have hj1 : (L2.length : Int) - y = j := by omega
                         have hj2 : (j : Int) < L2.length := by omega
                         have hl2 : L2.length ≤ 140000000000000 := by omega
                         clear hzj hL2 hj hcl
                         go_wp2_with (at_builtin; refine app_u8M _ rfl _ _ rfl W.heap.size _ L2 [z] ⟨wr.heap.size, 0, none⟩ 1 1 rfl (hown2.alloc _) rfl rfl (one_cell _ _ _ rfl _) (by omega) (by simp; omega) ?_; intro o4 w4 hown4 hg4 hm4)
                         go_roundw
                         case rel => first | exact ⟨q + 1, by omega, by go_num, by rw [HS.out]; exact hown4, held_grown HO2.out.2 HO2.out.1 hg4⟩ | ((repeat apply Exists.intro); exact ⟨⟨q + 1, by omega, by go_num, by rw [HS.out]; exact hown4, held_grown HO2.out.2 HO2.out.1 hg4⟩, rfl⟩)
                         case measure => (simp [intOf]) <;> omega
                       · obtain rfl : q = x - 124 := by omega
                         have hq3 : ((x - 124 : Nat) : Int) = (x : Int) - 124 := by omega
                         have hq4 : ¬ ((x - 124 : Nat) : Int) < (x : Int) - 124 := by omega
                         clear hq2
                         go_wp2
                         go_roundw
                         case rel => exact ⟨copyN l y (x - 124), i + 1 + 1, by go_num, by omega, by omega, HF.out.symm, HO2.out.1, HO2.out.2⟩
                         case measure => (simp [intOf]) <;> omega)
          · have HF := Lib.hid (HR.out.symm.trans (fin_bad (M := M) (l := l) hlt (by omega)))
            have hx3 : ¬ (x : Int) ≤ 191 := by omega
            go_wp2
            go_ret2
            exact ⟨by rw [HF.out]; rfl, HO.out.2⟩
      · obtain rfl : i = s.size := by omega
        have HF : Hid (dec M s.data.toList [] = (0, l)) := by
          show _ = _
          rw [← HR.out, List.drop_of_length_le (by rw [size_len']; exact Nat.le_refl _)]; rfl
        have hcv := conv_own HO.out.1
        go_wp2
        go_ret2
        exact ⟨by rw [HF.out]; rfl, HO.out.2⟩
  · obtain rfl : M = 0 := by omega
    have h0' : most < 0 := by omega
    clear hM
    go_enter Try.func33, Try.ntmps33
    go_wp2
    go_loopw [6, 7] (fun o i wr => ∃ (l : List UInt8) (j : Nat), i = .int .i64 j ∧ j ≤ s.size ∧ l.length ≤ 67 * j ∧ dec 0 (s.data.toList.drop j) l = dec 0 s.data.toList [] ∧ wr.ownsRow W.heap.size 5 1 o l.length (by8 l) ∧ Held W wr) (fun _ i _ => s.size - (intOf i).toNat)
    case atStart => exact ⟨[], 0, rfl, Nat.zero_le _, by simp, rfl, World.ownsRow_nil _ _ _ _, Held.refl _⟩
    case round =>
      obtain ⟨l, i, rfl, hi, hl, hR, hown, hh⟩ := hrel
      obtain ⟨A, cp, rfl, hcp⟩ := own_slice hown
      have HO := Lib.hid (And.intro hown hh)
      have HR := Lib.hid hR
      have hle := hh.le
      clear hown hh hR
      by_cases hlt : i < s.size
      · obtain ⟨x, hx⟩ : ∃ x, s[i].toNat = x := ⟨_, rfl⟩
        have hx255 : x ≤ 255 := by have := s[i].toNat_lt; omega
        by_cases hx1 : x < 128
        · have hf := fin_lit (M := 0) (l := l) hlt (by omega)
          rw [HR.out, hx] at hf
          by_cases he : s.size - (i + 1) < x + 1
          · rw [if_pos he] at hf
            have HF := Lib.hid hf
            have he' : (s.size : Int) - (i + 1) < x + 1 := by omega
            clear hf he
            go_wp2
            go_ret2
            exact ⟨by rw [HF.out]; rfl, HO.out.2⟩
          · rw [if_neg he] at hf
            by_cases hm2 : 0 < l.length + (x + 1)
            · rw [if_pos hm2] at hf
              have HF := Lib.hid hf
              have he' : ¬ (s.size : Int) - (i + 1) < x + 1 := by omega
              have hm3 : (0 : Int) < l.length + (x + 1) := by omega
              clear hf he hm2
              go_wp2
              go_ret2
              exact ⟨by rw [HF.out]; rfl, HO.out.2⟩
            · first
              | (exfalso; omega)
              | (rw [if_neg hm2] at hf
                 have HF := Lib.hid hf
                 have he' : ¬ (s.size : Int) - (i + 1) < x + 1 := by omega
                 have hm3 : ¬ (0 : Int) < l.length + (x + 1) := by omega
                 clear hf he hm2
                 have hown := HO.out.1
                 go_wp2_with (at_builtin; refine app_strM _ rfl _ _ rfl W.heap.size _ l (s.extract (i + 1) (i + 1 + (x + 1))) rfl hown rfl (by simp; omega) hle ?_; intro o4 w4 hown4 hg4 hm4)
                 go_roundw
                 case rel => exact ⟨l ++ (s.extract (i + 1) (i + 1 + (x + 1))).data.toList, i + 1 + (x + 1), by go_num, by omega, by simp; omega, HF.out.symm, hown4, held_grown0 HO.out.2 HO.out.1 hg4⟩
                 case measure => (simp [intOf]) <;> omega)
        · by_cases hx2 : x < 192
          · have hx2' : (x : Int) ≤ 191 := by omega
            have hd1 : decide ((x : Int) < 128) = false := by simp; omega
            by_cases hend : i + 1 = s.size
            · have HF := Lib.hid (HR.out.symm.trans (fin_last (M := 0) (l := l) hend (by omega) (by omega)))
              have hend' : (i : Int) + 1 = s.size := by omega
              clear hend
              go_wp2
              go_ret2
              exact ⟨by rw [HF.out]; rfl, HO.out.2⟩
            · have hi1 : i + 1 < s.size := by omega
              have hf := fin_copy (M := 0) (l := l) hi1 (by omega) (by omega)
              obtain ⟨y, hy⟩ : ∃ y, s[i + 1].toNat = y := ⟨_, rfl⟩
              have hy255 : y ≤ 255 := by have := s[i + 1].toNat_lt; omega
              have e4 := idx s ((i : Int) + 1) (i + 1) (by omega) hi1
              rw [hy] at e4 hf
              rw [HR.out, hx] at hf
              have hend' : ¬ (i : Int) + 1 = s.size := by omega
              have hend2 : ((i : Int) + 1 == (s.size : Int)) = false := by simp; omega
              clear hend
              by_cases hy0 : y = 0 ∨ l.length < y
              · rw [if_pos hy0] at hf
                have HF := Lib.hid hf
                clear hf
                by_cases hy1 : y = 0
                · subst hy1
                  clear hy0 hy
                  go_wp2
                  go_quiet (fail)
                  go_wp2
                  go_ret2
                  exact ⟨by rw [HF.out]; rfl, HO.out.2.drewN _⟩
                · have hy2 : (l.length : Int) < y := by omega
                  have hy3 : ((y : Int) == 0) = false := by simp; omega
                  have hy4 : ¬ (y : Int) = 0 := by omega
                  clear hy0 hy1
                  go_wp2
                  go_quiet (fail)
                  go_wp2
                  go_ret2
                  exact ⟨by rw [HF.out]; rfl, HO.out.2.drewN _⟩
              · rw [if_neg hy0] at hf
                have hy1 : 1 ≤ y := by omega
                have hy2 : ¬ (l.length : Int) < y := by omega
                have hy5 : decide (l.length < y) = false := by simp; omega
                have hy3 : ((y : Int) == 0) = false := by simp; omega
                have hy4 : ¬ (y : Int) = 0 := by omega
                clear hy0
                by_cases hm2 : 0 < l.length + (x - 124)
                · rw [if_pos hm2] at hf
                  have HF := Lib.hid hf
                  have hm3 : (0 : Int) < l.length + (x - 124) := by omega
                  clear hf hm2
                  go_wp2
                  go_quiet (fail)
                  go_wp2
                  go_ret2
                  exact ⟨by rw [HF.out]; rfl, HO.out.2.drewN _⟩
                · first
                  | (exfalso; omega)
                  | (rw [if_neg hm2] at hf
                     have HF := Lib.hid hf
                     have hm3 : ¬ (0 : Int) < l.length + (x - 124) := by omega
                     clear hf hm2
                     go_wp2
                     go_quiet (fail)
                     go_wp2
                     obtain ⟨wA, hwA⟩ : ∃ wA : World, wA = wr := ⟨_, rfl⟩
                     rw [← hwA] at HO ⊢
                     clear hwA
                     go_loopw [6, 82] (fun o k w2 => ∃ q : Nat, q ≤ x - 124 ∧ k = .int .i64 q ∧ w2.ownsRow W.heap.size 5 1 o (copyN l y q).length (by8 (copyN l y q)) ∧ Held W w2) (fun _ k _ => (x - 124) - (intOf k).toNat)
                     case atStart => exact ⟨0, Nat.zero_le _, rfl, own_drewN HO.out.1 _, HO.out.2.drewN _⟩
                     case round =>
                       obtain ⟨q, hq, rfl, hown2, hh2⟩ := hrel
                       obtain ⟨A2, cp2, rfl, hcp2⟩ := own_slice hown2
                       have hcl := copyN_len l y q
                       have HO2 := Lib.hid (And.intro hown2 hh2)
                       have hle2 := hh2.le
                       clear hh2
                       by_cases hq2 : q < x - 124
                       · have hq3 : (q : Int) < x - 124 := by omega
                         obtain ⟨j, hj⟩ : ∃ j, j = (copyN l y q).length - y := ⟨_, rfl⟩
                         obtain ⟨z, hz, hzj⟩ : ∃ z, copyN l y (q + 1) = copyN l y q ++ [z] ∧ (copyN l y q)[j]? = some z :=
                           ⟨_, copyN_step l y q (by omega), by rw [hj]; exact List.getElem?_eq_getElem _⟩
                         have HS := Lib.hid hz
                         clear hz
                         generalize hL2 : copyN l y q = L2 at *
                         obtain ⟨g, hA2, hc2⟩ := own_cell' hown2 j z hzj
                         subst hA2
                         have hjl : j < L2.length := (List.getElem?_eq_some_iff.1 hzj).1
                         have hj1 : (L2.length : Int) - y = j := by omega
                         have hj2 : (j : Int) < L2.length := by omega
                         have hl2 : L2.length ≤ 140000000000000 := by omega
                         clear hzj hL2 hj hcl
                         go_wp2_with (at_builtin; refine app_u8M _ rfl _ _ rfl W.heap.size _ L2 [z] ⟨wr.heap.size, 0, none⟩ 1 1 rfl (hown2.alloc _) rfl rfl (one_cell _ _ _ rfl _) (by omega) (by simp; omega) ?_; intro o4 w4 hown4 hg4 hm4)
                         go_roundw
                         case rel => first | exact ⟨q + 1, by omega, by go_num, by rw [HS.out]; exact hown4, held_grown HO2.out.2 HO2.out.1 hg4⟩ | ((repeat apply Exists.intro); exact ⟨⟨q + 1, by omega, by go_num, by rw [HS.out]; exact hown4, held_grown HO2.out.2 HO2.out.1 hg4⟩, rfl⟩)
                         case measure => (simp [intOf]) <;> omega
                       · obtain rfl : q = x - 124 := by omega
                         have hq3 : ((x - 124 : Nat) : Int) = (x : Int) - 124 := by omega
                         have hq4 : ¬ ((x - 124 : Nat) : Int) < (x : Int) - 124 := by omega
                         clear hq2
                         go_wp2
                         go_roundw
                         case rel => exact ⟨copyN l y (x - 124), i + 1 + 1, by go_num, by omega, by omega, HF.out.symm, HO2.out.1, HO2.out.2⟩
                         case measure => (simp [intOf]) <;> omega)
          · have HF := Lib.hid (HR.out.symm.trans (fin_bad (M := 0) (l := l) hlt (by omega)))
            have hx3 : ¬ (x : Int) ≤ 191 := by omega
            go_wp2
            go_ret2
            exact ⟨by rw [HF.out]; rfl, HO.out.2⟩
      · obtain rfl : i = s.size := by omega
        have HF : Hid (dec 0 s.data.toList [] = (0, l)) := by
          show _ = _
          rw [← HR.out, List.drop_of_length_le (by rw [size_len']; exact Nat.le_refl _)]; rfl
        have hcv := conv_own HO.out.1
        go_wp2
        go_ret2
        exact ⟨by rw [HF.out]; rfl, HO.out.2⟩
end Cp
end Go.Proofs.Ythpjbffhdaaibaa
