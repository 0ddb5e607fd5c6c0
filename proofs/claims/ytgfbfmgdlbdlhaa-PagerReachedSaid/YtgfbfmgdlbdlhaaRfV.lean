/-
  Contracts: CountPages, ValidPager of the reference of chapter 36.
-/
import Derived.Test.YtgfbfmgdlbdlhaaRfP
set_option linter.unusedVariables false
set_option linter.unusedSimpArgs false
set_option maxRecDepth 100000
namespace Go.Proofs.Ytgfbfmgdlbdlhaa
open Go.RowKit Go.BigFrame Go.Sort
namespace Pg
set_option maxHeartbeats 4000000 in
theorem count_ref (A : Option Addr) (n cap : Nat) (lim hand st : Int) (L : List Pg) (w : World) (h : Sl 3 pgC w A n L) (hn : (n : Int) ≤ 1000000) :
    Calls Try.prog 33 #[grV A n cap lim hand, .int .i64 st] w fun e w' => e = .returned (.int .i64 (count st L)) ∧ Held w w' := by
  have HS := Lib.hid h
  have HL := Lib.hid h.1
  clear h
  have M0 := Lib.hid ((Mem.start w).alloc #[.slice A n cap, .int .i64 lim, .int .i64 hand] 32)
  show Calls Try.prog 33 #[.agg #[.slice A n cap, .int .i64 lim, .int .i64 hand], .int .i64 st] w _
  go_enter Try.func33, Try.ntmps33
  go_wp2
  go_loopw [5, 6] (fun c i wr => ∃ k : Nat, i = .int .i64 k ∧ k ≤ n ∧ c = .int .i64 (count st (L.take k) : Nat) ∧ Mem w wr [.box w.heap.size #[.slice A n cap, .int .i64 lim, .int .i64 hand] 32]) (fun _ i _ => n - (intOf i).toNat)
  case atStart => exact ⟨0, rfl, Nat.zero_le _, rfl, M0.out⟩
  case round =>
    obtain ⟨k, rfl, hk, rfl, M⟩ := hrel
    have M1 := Lib.hid M
    have hh := M.held
    obtain ⟨⟨p0, p1, p2⟩, _, plt⟩ := M.box3 0 rfl
    have hcl := count_le st (L.take k)
    rw [List.length_take] at hcl
    by_cases hlt : (k : Int) < n
    · obtain ⟨b, off, x, rfl, hb, hx1, hc1⟩ := HS.out.at_ hh (k := k) (by omega)
      have x0 := hc1 0 _ rfl
      have x1 := hc1 1 _ rfl
      have x2 := hc1 2 _ rfl
      rw [Nat.add_zero] at x0
      have hkL : k < L.length := by have := HL.out; omega
      have hxe : L[k] = x := by rw [List.getElem?_eq_getElem hkL] at hx1; injection hx1
      have hcn := count_next st L k hkL
      rw [hxe] at hcn
      clear hc1 hx1 hxe hkL hh M M0
      generalize count st (L.take k) = c at hcn hcl
      have hc1 : (c : Int) ≤ 1000000 := by omega
      clear hcl
      by_cases hs : x.st = st
      · have hsb : (x.st == st) = true := by simp [hs]
        rw [if_pos hs] at hcn
        have HCN := Lib.hid hcn
        clear hs hcn
        go_wp2
        go_roundw
        case rel => exact ⟨k + 1, by go_num, by omega, by rw [HCN.out]; go_num, M1.out⟩
        case measure => (simp [intOf]) <;> omega
      · have hsb : (x.st == st) = false := by simp [hs]
        rw [if_neg hs, Nat.add_zero] at hcn
        have HCN := Lib.hid hcn
        clear hs hcn
        go_wp2
        go_roundw
        case rel => exact ⟨k + 1, by go_num, by omega, by rw [HCN.out]; rfl, M1.out⟩
        case measure => (simp [intOf]) <;> omega
    · obtain rfl : k = n := by omega
      have htk : L.take k = L := by rw [← HL.out, List.take_length]
      rw [htk]
      clear hh htk M M0
      go_wp2
      go_ret
      exact ⟨rfl, M1.out.held⟩
theorem okP_big {x : Pg} (h : 128 < x.d.size) : okP x = false := by
  cases ho : okP x
  · rfl
  · exfalso
    unfold okP at ho
    split at ho
    · simp at ho; omega
    · split at ho
      · unfold okZ at ho
        split at ho
        · cases ho
        · rename_i hn; simp at hn; omega
      · split at ho
        · unfold okS at ho; simp at ho; omega
        · cases ho
set_option maxHeartbeats 8000000 in
theorem valid_ref (A : Option Addr) (n cap : Nat) (lim hand : Int) (L : List Pg) (w : World) (h : Sl 3 pgC w A n L) (hn : (n : Int) ≤ 1000000) :
    Calls Try.prog 32 #[grV A n cap lim hand] w fun e w' => e = .returned (.bool (valid L lim hand)) ∧ Held w w' := by
  have HS := Lib.hid h
  have HL := Lib.hid h.1
  have hl := h.1
  have HCN := Lib.hid (fun w' (q : Held w w') => count_ref A n cap lim hand 1 L w' (HS.out.held q) hn)
  unfold grV at HCN
  have hcl := count_le 1 L
  rw [hl] at hcl
  clear h
  have M0 := Lib.hid ((Mem.start w).alloc #[.slice A n cap, .int .i64 lim, .int .i64 hand] 32)
  show Calls Try.prog 32 #[.agg #[.slice A n cap, .int .i64 lim, .int .i64 hand]] w _
  by_cases hin : (n : Int) < 1 ∨ 32 < (n : Int) ∨ lim < 1 ∨ (n : Int) < lim ∨ hand < 0 ∨ (n : Int) ≤ hand
  · have HR := Lib.hid (valid_out (L := L) (lim := lim) (hand := hand) (by rw [hl]; exact hin))
    rw [HR.out]
    clear hl HCN hcl
    by_cases g1 : (n : Int) < 1
    · go_enter Try.func32, Try.ntmps32
      go_wp2
      go_ret
      exact ⟨rfl, M0.out.held⟩
    by_cases g2 : (32 : Int) < n
    · go_enter Try.func32, Try.ntmps32
      go_wp2
      go_ret
      exact ⟨rfl, M0.out.held⟩
    by_cases g3 : lim < 1
    · go_enter Try.func32, Try.ntmps32
      go_wp2
      go_ret
      exact ⟨rfl, M0.out.held⟩
    by_cases g4 : (n : Int) < lim
    · go_enter Try.func32, Try.ntmps32
      go_wp2
      go_ret
      exact ⟨rfl, M0.out.held⟩
    by_cases g5 : hand < 0
    · go_enter Try.func32, Try.ntmps32
      go_wp2
      go_ret
      exact ⟨rfl, M0.out.held⟩
    have g6 : (n : Int) ≤ hand := by omega
    go_enter Try.func32, Try.ntmps32
    go_wp2
    go_ret
    exact ⟨rfl, M0.out.held⟩
  · have HR := Lib.hid (valid_in (L := L) (lim := lim) (hand := hand) (by rw [hl]; exact hin))
    have g1 : ¬ (n : Int) < 1 := by omega
    have g2 : ¬ (32 : Int) < n := by omega
    have g3 : ¬ lim < 1 := by omega
    have g4 : ¬ (n : Int) < lim := by omega
    have g5 : ¬ hand < 0 := by omega
    have g6 : ¬ (n : Int) ≤ hand := by omega
    rw [HR.out]
    obtain ⟨cn, hcn⟩ : ∃ cn, count 1 L = cn := ⟨_, rfl⟩
    rw [hcn] at HCN hcl
    rw [hcn]
    clear hl hin HR hcn
    go_enter Try.func32, Try.ntmps32
    go_wp2
    go_loopw [4] (fun i wr => ∃ k : Nat, i = .int .i64 k ∧ k ≤ n ∧ (L.take k).all okP = true ∧ Mem w wr [.box w.heap.size #[.slice A n cap, .int .i64 lim, .int .i64 hand] 32]) (fun i _ => n - (intOf i).toNat)
    case atStart => exact ⟨0, rfl, Nat.zero_le _, rfl, M0.out⟩
    case round =>
      obtain ⟨k, rfl, hk, ho, M⟩ := hrel
      have HO := Lib.hid ho
      have M1 := Lib.hid M
      obtain ⟨⟨p0, p1, p2⟩, _, plt⟩ := M.box3 0 rfl
      clear ho M M0
      by_cases hlt : (k : Int) < n
      · obtain ⟨b, off, x, rfl, hb, hx1, hc1⟩ := HS.out.at_ M1.out.held (k := k) (by omega)
        have x0 := hc1 0 _ rfl
        have x1 := hc1 1 _ rfl
        have x2 := hc1 2 _ rfl
        rw [Nat.add_zero] at x0
        have hkL : k < L.length := by have := HL.out; omega
        have hxe : L[k] = x := by rw [List.getElem?_eq_getElem hkL] at hx1; injection hx1
        have hn1 := all_next okP L k hkL
        rw [hxe, HO.out, Bool.true_and] at hn1
        have HNX := Lib.hid hn1
        clear hc1 hx1 hxe hkL hn1
        by_cases hbig : (128 : Int) < x.d.size
        · have HNO : Hid (L.all okP = false) := all_no (by rw [HNX.out]; exact okP_big (by omega))
          clear HNX
          go_wp2
          go_ret
          exact ⟨ret_b (by rw [HNO.out]; rfl), M1.out.held⟩
        · have HV := Lib.hid (fun w => formed_ref x w (by omega))
          unfold pgV at HV
          obtain ⟨q, hq⟩ : ∃ q, okP x = q := ⟨_, rfl⟩
          rw [hq] at HV HNX
          clear hq
          cases q
          · have HNO : Hid (L.all okP = false) := all_no HNX.out
            clear HNX
            go_wp2_with (go_at_call 45; refine (HV.out _).mono ?_; rintro e w1 ⟨rfl, h1⟩; have M2 := Lib.hid (M1.out.keep h1); clear h1)
            go_ret
            exact ⟨ret_b (by rw [HNO.out]; rfl), M2.out.held⟩
          · go_wp2_with (go_at_call 45; refine (HV.out _).mono ?_; rintro e w1 ⟨rfl, h1⟩; have M2 := Lib.hid (M1.out.keep h1); clear h1)
            go_roundw
            case rel => exact ⟨k + 1, by go_num, by omega, HNX.out, M2.out⟩
            case measure => (simp [intOf]) <;> omega
      · obtain rfl : k = n := by omega
        have htk : Hid (L.all okP = true) := by have := HO.out; rw [← HL.out, List.take_length] at this; exact this
        have cA := Lib.hid fun dd os => Calls.regrown_of (d := dd) (os := os) (HCN.out (grow (redrawn wr dd) os) (M1.out.held.step (below_regrown wr dd os)))
        have k0 := cell_regrown p0
        have k1 := cell_regrown p1
        have k2 := cell_regrown p2
        clear HCN
        go_wp2
        refine wp_region_quiet_below (by kernel_rfl) (by kernel_rfl) ?_
        repeat (go_big_quiet_step (first | (go_at_call 33; exact cA.out _ _)))
        refine wpQuiet_nil ?_
        intro _ hw'
        obtain ⟨⟨dq, osq⟩, hw''⟩ := hw'
        subst hw''
        go_wp2
        go_ret
        exact ⟨ret_b (by rw [htk.out, Bool.true_and]), M1.out.held.step (below_regrown wr dq osq)⟩
end Pg
end Go.Proofs.Ytgfbfmgdlbdlhaa
