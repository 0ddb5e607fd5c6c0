/-
  Contracts: validPage, Count, Valid, has of the pager.
-/
import Derived.Test.YtgfbfmgdlbdlhaaPgC
set_option linter.unusedVariables false
set_option linter.unusedSimpArgs false
set_option maxRecDepth 100000
namespace Go.Proofs.Ytgfbfmgdlbdlhaa
open Go.RowKit Go.BigFrame Go.Sort
namespace Pg
theorem ret_b {a b : Bool} (h : a = b) : Ending.returned (.bool a) = .returned (.bool b) := by rw [h]
theorem ba_beq (a b : ByteArray) : (a.toList == b.toList) = decide (a = b) := by
  rw [Bool.eq_iff_iff]
  simp only [beq_iff_eq, decide_eq_true_eq]
  constructor
  · intro h
    rw [ByteArray.toList_eq, ByteArray.toList_eq] at h
    cases a; cases b
    simp at h
    rw [h]
  · rintro rfl; rfl
theorem okZ_no {u : Bool} {d : ByteArray} (h : u = true ∨ 64 < d.size) : okZ u d = false := if_pos h
theorem okZ_yes {u : Bool} {d : ByteArray} (h : ¬ (u = true ∨ 64 < d.size)) : okZ u d = (decide (unzE d = 0) && (decide ((unz d).size = 128) && decide (zip (unz d) = d))) := if_neg h
set_option maxHeartbeats 4000000 in
theorem validPage_any (x : Pg) (w : World) (hd : (x.d.size : Int) ≤ 1000000) : Calls Try.prog 40 #[pgV x] w fun e w' => e = .returned (.bool (okP x)) ∧ Held w w' := by
  obtain ⟨st, d, u⟩ := x
  simp only at hd
  show Calls Try.prog 40 #[.agg #[.int .i64 st, .string d, .bool u]] w _
  have W0 := Lib.hid ((Held.refl w).alloc (.cells #[.int .i64 st, .string d, .bool u] 37))
  by_cases h1 : st = 1
  · subst h1
    have HR : Hid (okP ⟨1, d, u⟩ = decide (d.size = 128)) := show _ = _ by simp [okP]
    rw [HR.out]
    by_cases hs : d.size = 128
    · have hb : ((d.size : Int) == 128) = true := by simp [hs]
      have HF : Hid (decide (d.size = 128) = true) := show _ = _ by simp [hs]
      clear hs
      go_enter Try.func40, Try.ntmps40
      go_wp2
      go_ret
      exact ⟨ret_b (by rw [HF.out]), W0.out⟩
    · have hb : ((d.size : Int) == 128) = false := by simp; omega
      have HF : Hid (decide (d.size = 128) = false) := show _ = _ by simp [hs]
      clear hs
      go_enter Try.func40, Try.ntmps40
      go_wp2
      go_ret
      exact ⟨ret_b (by rw [HF.out]), W0.out⟩
  by_cases h2 : st = 2
  · subst h2
    have HR : Hid (okP ⟨2, d, u⟩ = okZ u d) := show _ = _ by simp [okP]
    rw [HR.out]
    cases u
    · by_cases h64 : 64 < d.size
      · have HF := Lib.hid (okZ_no (u := false) (.inr h64))
        rw [HF.out]
        have h64' : (64 : Int) < d.size := by omega
        go_enter Try.func40, Try.ntmps40
        go_wp2
        go_ret
        exact ⟨rfl, W0.out⟩
      · have HF := Lib.hid (okZ_yes (u := false) (d := d) (by simp; omega))
        have h64' : ¬ (64 : Int) < d.size := by omega
        rw [HF.out]
        have HD := Lib.hid (fun w => Cp.dec_any d 128 w (by omega) (by decide))
        obtain ⟨s, hs⟩ : ∃ s, unz d = s := ⟨_, rfl⟩
        obtain ⟨er, her⟩ : ∃ er, unzE d = er := ⟨_, rfl⟩
        have hs' : (⟨(Cp.dec (128 : Int).toNat d.data.toList []).2.toArray⟩ : ByteArray) = s := hs
        have her' : (Cp.dec (128 : Int).toNat d.data.toList []).1 = er := her
        rw [hs', her'] at HD
        rw [hs, her]
        clear hs hs' her her' HF HR h64
        by_cases he : er = 0
        · have heb : ((er : Int) == 0) = true := by simp [he]
          have HE : Hid (decide (er = 0) = true) := show _ = _ by simp [he]
          clear he
          by_cases hl : s.size = 128
          · have hlb : ((s.size : Int) == 128) = true := by simp [hl]
            have HL : Hid (decide (s.size = 128) = true) := show _ = _ by simp [hl]
            have HC := Lib.hid (fun w => Cp.compress_any s w (by omega))
            clear hl
            obtain ⟨z, hz⟩ : ∃ z, zip s = z := ⟨_, rfl⟩
            have hz' : (⟨(Cp.compress s.data.toList).toArray⟩ : ByteArray) = z := hz
            rw [hz'] at HC
            rw [hz]
            clear hz hz'
            obtain ⟨q, hq⟩ : ∃ q, decide (z = d) = q := ⟨_, rfl⟩
            have hqb : (z.toList == d.toList) = q := by rw [ba_beq]; exact hq
            have HQ := Lib.hid hq
            clear hq
            go_enter Try.func40, Try.ntmps40
            go_wp2_with (go_at_call 47; refine (HD.out _).mono ?_; rintro e w1 ⟨rfl, h1⟩)
            have B1 := Lib.hid (show PB w1 w.heap.size ⟨2, d, false⟩ from Bx.held (PB.new w ⟨2, d, false⟩) h1)
            have W1 := Lib.hid (W0.out.step h1)
            clear h1
            have k1 := cell_regrown (PB.facts B1.out).1.2.1
            have cA := Lib.hid fun dd os => Calls.regrown_of (d := dd) (os := os) (HC.out (grow (redrawn w1 dd) os))
            refine wp_region_quiet_below (by kernel_rfl) (by kernel_rfl) ?_
            repeat (go_big_quiet_step (first | (go_at_call 42; exact cA.out _ _)))
            refine wpQuiet_nil ?_
            intro _ hw'
            obtain ⟨⟨dq, osq⟩, hw''⟩ := hw'
            subst hw''
            go_wp2
            go_ret
            exact ⟨ret_b (by rw [HE.out, HL.out, HQ.out]; rfl), W1.out.step (below_regrown w1 dq osq)⟩
          · have hlb : ((s.size : Int) == 128) = false := by simp; omega
            have HL : Hid (decide (s.size = 128) = false) := show _ = _ by simp [hl]
            clear hl
            go_enter Try.func40, Try.ntmps40
            go_wp2_with (go_at_call 47; refine (HD.out _).mono ?_; rintro e w1 ⟨rfl, h1⟩)
            have W1 := Lib.hid (W0.out.step h1)
            clear h1
            refine wp_region_quiet_below (by kernel_rfl) (by kernel_rfl) ?_
            repeat (go_big_quiet_step (fail))
            refine wpQuiet_nil ?_
            intro _ hw'
            obtain ⟨⟨dq, osq⟩, hw''⟩ := hw'
            subst hw''
            go_wp2
            go_ret
            exact ⟨ret_b (by rw [HE.out, HL.out]; rfl), W1.out.step (below_regrown w1 dq osq)⟩
        · have heb : ((er : Int) == 0) = false := by simp; omega
          have HE : Hid (decide (er = 0) = false) := show _ = _ by simp [he]
          clear he
          go_enter Try.func40, Try.ntmps40
          go_wp2_with (go_at_call 47; refine (HD.out _).mono ?_; rintro e w1 ⟨rfl, h1⟩)
          have W1 := Lib.hid (W0.out.step h1)
          clear h1
          refine wp_region_quiet_below (by kernel_rfl) (by kernel_rfl) ?_
          repeat (go_big_quiet_step (fail))
          refine wpQuiet_nil ?_
          intro _ hw'
          obtain ⟨⟨dq, osq⟩, hw''⟩ := hw'
          subst hw''
          go_wp2
          go_ret
          exact ⟨ret_b (by rw [HE.out]; rfl), W1.out.step (below_regrown w1 dq osq)⟩
    · have HF := Lib.hid (okZ_no (u := true) (d := d) (.inl rfl))
      rw [HF.out]
      go_enter Try.func40, Try.ntmps40
      go_wp2
      go_ret
      exact ⟨rfl, W0.out⟩
  by_cases h3 : st = 3
  · subst h3
    have HR : Hid (okP ⟨3, d, u⟩ = okS u d) := show _ = _ by simp [okP]
    rw [HR.out]
    cases u
    · have HF : Hid (okS false d = (decide (d.size = 128) && decide (64 < (zip d).size))) := rfl
      rw [HF.out]
      by_cases hl : d.size = 128
      · have hlb : ((d.size : Int) == 128) = true := by simp [hl]
        have HL : Hid (decide (d.size = 128) = true) := show _ = _ by simp [hl]
        have HC := Lib.hid (fun w => Cp.compress_any d w (by omega))
        clear hl
        obtain ⟨z, hz⟩ : ∃ z, zip d = z := ⟨_, rfl⟩
        have hz' : (⟨(Cp.compress d.data.toList).toArray⟩ : ByteArray) = z := hz
        rw [hz'] at HC
        rw [hz]
        clear hz hz' HF HR
        have hq : Hid (∀ q, decide ((64 : Int) < z.size) = q → decide (64 < z.size) = q) := by
          intro q hq; rw [← hq, Bool.eq_iff_iff]; simp; omega
        obtain ⟨q, hqe⟩ : ∃ q, decide ((64 : Int) < z.size) = q := ⟨_, rfl⟩
        have HQ := Lib.hid (hq.out q hqe)
        have HQE := Lib.hid hqe
        go_enter Try.func40, Try.ntmps40
        go_wp2_with (go_at_call 42; refine (HC.out _).mono ?_; rintro e w1 ⟨rfl, h1⟩)
        go_ret
        exact ⟨ret_b (by rw [HL.out, HQ.out]; rfl), W0.out.step h1⟩
      · have hlb : ((d.size : Int) == 128) = false := by simp; omega
        have HL : Hid (decide (d.size = 128) = false) := show _ = _ by simp [hl]
        rw [HL.out]
        clear hl
        go_enter Try.func40, Try.ntmps40
        go_wp2
        go_ret
        exact ⟨rfl, W0.out⟩
    · have HF : Hid (okS true d = false) := rfl
      rw [HF.out]
      go_enter Try.func40, Try.ntmps40
      go_wp2
      go_ret
      exact ⟨rfl, W0.out⟩
  · have HR : Hid (okP ⟨st, d, u⟩ = false) := show _ = _ by simp [okP, h1, h2, h3]
    rw [HR.out]
    have e1 : (st == 1) = false := by simp [h1]
    have e2 : (st == 2) = false := by simp [h2]
    have e3 : (st == 3) = false := by simp [h3]
    clear h1 h2 h3
    go_enter Try.func40, Try.ntmps40
    go_wp2
    go_ret
    exact ⟨rfl, W0.out⟩
/-- The pager's value. -/
def grV (A : Option Addr) (n cap : Nat) (lim hand : Int) : Value := .agg #[.slice A n cap, .int .i64 lim, .int .i64 hand]
set_option maxHeartbeats 4000000 in
theorem count_any (A : Option Addr) (n cap : Nat) (lim hand st : Int) (L : List Pg) (w : World) (h : Sl 3 pgC w A n L) (hn : (n : Int) ≤ 1000000) :
    Calls Try.prog 23 #[grV A n cap lim hand, .int .i64 st] w fun e w' => e = .returned (.int .i64 (count st L)) ∧ Held w w' := by
  have HS := Lib.hid h
  have HL := Lib.hid h.1
  clear h
  show Calls Try.prog 23 #[.agg #[.slice A n cap, .int .i64 lim, .int .i64 hand], .int .i64 st] w _
  go_enter Try.func23, Try.ntmps23
  go_wp2
  go_loopw [5, 11] (fun c i wr => ∃ k : Nat, i = .int .i64 k ∧ k ≤ n ∧ c = .int .i64 (count st (L.take k) : Nat) ∧ Held w wr) (fun _ i _ => n - (intOf i).toNat)
  case atStart => exact ⟨0, rfl, Nat.zero_le _, rfl, (Held.refl w).alloc _⟩
  case round =>
    obtain ⟨k, rfl, hk, rfl, hh⟩ := hrel
    have HH := Lib.hid hh
    have hcl := count_le st (L.take k)
    rw [List.length_take] at hcl
    by_cases hlt : (k : Int) < n
    · obtain ⟨b, off, x, rfl, hb, hx1, hc1⟩ := HS.out.at_ hh (k := k) (by omega)
      have x0 := hc1 0 _ rfl
      have x1 := hc1 1 _ rfl
      have x2 := hc1 2 _ rfl
      rw [Nat.add_zero] at x0
      have hkL : k < L.length := by have := HL.out; omega
      have hxe : L[k] = x := by rw [List.getElem?_eq_getElem hkL] at hx1; injection hx1
      have hcn := count_next st L k hkL
      rw [hxe] at hcn
      clear hc1 hx1 hxe hkL hh
      generalize count st (L.take k) = c at hcn hcl
      have hc1 : (c : Int) ≤ 1000000 := by omega
      clear hcl
      by_cases hs : x.st = st
      · have hsb : (x.st == st) = true := by simp [hs]
        rw [if_pos hs] at hcn
        have HCN := Lib.hid hcn
        clear hs hcn
        go_wp2
        go_roundw
        case rel => exact ⟨k + 1, by go_num, by omega, by rw [HCN.out]; go_num, HH.out.alloc _⟩
        case measure => (simp [intOf]) <;> omega
      · have hsb : (x.st == st) = false := by simp [hs]
        rw [if_neg hs, Nat.add_zero] at hcn
        have HCN := Lib.hid hcn
        clear hs hcn
        go_wp2
        go_roundw
        case rel => exact ⟨k + 1, by go_num, by omega, by rw [HCN.out]; rfl, HH.out.alloc _⟩
        case measure => (simp [intOf]) <;> omega
    · obtain rfl : k = n := by omega
      have htk : L.take k = L := by rw [← HL.out, List.take_length]
      rw [htk]
      clear hh htk
      go_wp2
      go_ret
      exact ⟨rfl, HH.out⟩
theorem valid_out {L : List Pg} {lim hand : Int} (h : (L.length : Int) < 1 ∨ 32 < (L.length : Int) ∨ lim < 1 ∨ (L.length : Int) < lim ∨ hand < 0 ∨ (L.length : Int) ≤ hand) : valid L lim hand = false := if_pos h
theorem valid_in {L : List Pg} {lim hand : Int} (h : ¬ ((L.length : Int) < 1 ∨ 32 < (L.length : Int) ∨ lim < 1 ∨ (L.length : Int) < lim ∨ hand < 0 ∨ (L.length : Int) ≤ hand)) : valid L lim hand = (L.all okP && decide ((count 1 L : Int) ≤ lim)) := if_neg h
set_option maxHeartbeats 4000000 in
theorem valid_any (A : Option Addr) (n cap : Nat) (lim hand : Int) (L : List Pg) (w : World) (h : Sl 3 pgC w A n L) (hn : (n : Int) ≤ 1000000) (hd : ∀ x ∈ L, (x.d.size : Int) ≤ 1000000) :
    Calls Try.prog 24 #[grV A n cap lim hand] w fun e w' => e = .returned (.bool (valid L lim hand)) ∧ Held w w' := by
  have HS := Lib.hid h
  have HD := Lib.hid hd
  have HL := Lib.hid h.1
  have hl := h.1
  clear h hd
  have W0 := Lib.hid ((Held.refl w).alloc (.cells #[.slice A n cap, .int .i64 lim, .int .i64 hand] 32))
  show Calls Try.prog 24 #[.agg #[.slice A n cap, .int .i64 lim, .int .i64 hand]] w _
  by_cases hin : (n : Int) < 1 ∨ 32 < (n : Int) ∨ lim < 1 ∨ (n : Int) < lim ∨ hand < 0 ∨ (n : Int) ≤ hand
  · have HR := Lib.hid (valid_out (L := L) (lim := lim) (hand := hand) (by rw [hl]; exact hin))
    rw [HR.out]
    clear hl
    by_cases g1 : (n : Int) < 1
    · go_enter Try.func24, Try.ntmps24
      go_wp2
      go_ret
      exact ⟨rfl, W0.out⟩
    by_cases g2 : (32 : Int) < n
    · go_enter Try.func24, Try.ntmps24
      go_wp2
      go_ret
      exact ⟨rfl, W0.out⟩
    by_cases g3 : lim < 1
    · go_enter Try.func24, Try.ntmps24
      go_wp2
      go_ret
      exact ⟨rfl, W0.out⟩
    by_cases g4 : (n : Int) < lim
    · go_enter Try.func24, Try.ntmps24
      go_wp2
      go_ret
      exact ⟨rfl, W0.out⟩
    by_cases g5 : hand < 0
    · go_enter Try.func24, Try.ntmps24
      go_wp2
      go_ret
      exact ⟨rfl, W0.out⟩
    have g6 : (n : Int) ≤ hand := by omega
    go_enter Try.func24, Try.ntmps24
    go_wp2
    go_ret
    exact ⟨rfl, W0.out⟩
  · have HR := Lib.hid (valid_in (L := L) (lim := lim) (hand := hand) (by rw [hl]; exact hin))
    rw [HR.out]
    have g1 : ¬ (n : Int) < 1 := by omega
    have g2 : ¬ (32 : Int) < n := by omega
    have g3 : ¬ lim < 1 := by omega
    have g4 : ¬ (n : Int) < lim := by omega
    have g5 : ¬ hand < 0 := by omega
    have g6 : ¬ (n : Int) ≤ hand := by omega
    have HCN := Lib.hid (fun w' (q : Held w w') => count_any A n cap lim hand 1 L w' (HS.out.held q) hn)
    clear hl hin HR
    go_enter Try.func24, Try.ntmps24
    go_wp2
    go_loopw [40] (fun i wr => ∃ k : Nat, i = .int .i64 k ∧ k ≤ n ∧ (L.take k).all okP = true ∧ Held (w.alloc (.cells #[.slice A n cap, .int .i64 lim, .int .i64 hand] 32)) wr) (fun i _ => n - (intOf i).toNat)
    case atStart => exact ⟨0, rfl, Nat.zero_le _, rfl, Held.refl _⟩
    case round =>
      obtain ⟨k, rfl, hk, ho, hh⟩ := hrel
      have HO := Lib.hid ho
      have HB := Lib.hid hh
      have hw := W0.out.step hh
      have HH := Lib.hid hw
      clear ho hh
      by_cases hlt : (k : Int) < n
      · obtain ⟨b, off, x, rfl, hb, hx1, hc1⟩ := HS.out.at_ hw (k := k) (by omega)
        have x0 := hc1 0 _ rfl
        have x1 := hc1 1 _ rfl
        have x2 := hc1 2 _ rfl
        rw [Nat.add_zero] at x0
        have hkL : k < L.length := by have := HL.out; omega
        have hxe : L[k] = x := by rw [List.getElem?_eq_getElem hkL] at hx1; injection hx1
        have hn1 := all_next okP L k hkL
        rw [hxe, HO.out, Bool.true_and] at hn1
        have hxd := HD.out x (hxe ▸ List.getElem_mem hkL)
        have HNX := Lib.hid hn1
        have HV := Lib.hid (fun w => validPage_any x w hxd)
        clear hc1 hx1 hxe hn1 hw hkL hxd
        obtain ⟨v, hv⟩ : ∃ v, okP x = v := ⟨_, rfl⟩
        rw [hv] at HV HNX
        clear hv
        unfold pgV at HV
        cases v
        · have HE := Lib.hid (all_no HNX.out)
          go_wp2_with (go_at_call 40; refine (HV.out _).mono ?_; rintro e w1 ⟨rfl, h1⟩)
          go_ret
          exact ⟨ret_b (by rw [HE.out]; rfl), (HH.out.alloc _).step h1⟩
        · go_wp2_with (go_at_call 40; refine (HV.out _).mono ?_; rintro e w1 ⟨rfl, h1⟩)
          go_roundw
          case rel => exact ⟨k + 1, by go_num, by omega, HNX.out, (HB.out.alloc _).step h1⟩
          case measure => (simp [intOf]) <;> omega
      · obtain rfl : k = n := by omega
        have HA : Hid (L.all okP = true) := show _ = _ by have := HO.out; rw [← HL.out, List.take_length] at this; exact this
        have BX : Hid (wr.heap[w.heap.size]? = some (.cells #[.slice A k cap, .int .i64 lim, .int .i64 hand] 32 (0, 0))) := Bx.held (Bx.new w _) HB.out
        clear hw HO
        have k0 := cell_regrown (Bx.cell BX.out 0 rfl)
        have k1 := cell_regrown (Bx.cell BX.out 1 rfl)
        have k2 := cell_regrown (Bx.cell BX.out 2 rfl)
        have cA := Lib.hid fun dd os => Calls.regrown_of (d := dd) (os := os) (HCN.out (grow (redrawn wr dd) os) (HH.out.step (below_regrown wr dd os)))
        unfold grV at cA
        obtain ⟨c, hc⟩ : ∃ c, count 1 L = c := ⟨_, rfl⟩
        rw [hc] at cA
        have HCC := Lib.hid hc
        clear hc HCN
        go_wp2
        refine wp_region_quiet_below (by kernel_rfl) (by kernel_rfl) ?_
        repeat (go_big_quiet_step (first | (go_at_call 23; exact cA.out _ _)))
        refine wpQuiet_nil ?_
        intro _ hw'
        obtain ⟨⟨dq, osq⟩, hw''⟩ := hw'
        subst hw''
        go_wp2
        go_ret
        exact ⟨ret_b (by rw [HA.out, HCC.out]; simp), HH.out.step (below_regrown wr dq osq)⟩
end Pg
end Go.Proofs.Ytgfbfmgdlbdlhaa
