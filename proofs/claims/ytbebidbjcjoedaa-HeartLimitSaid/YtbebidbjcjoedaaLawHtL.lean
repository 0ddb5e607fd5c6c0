/-
  Chapter 27: without a new heartbeat a detector suspects after exactly its limit of ticks: the walk.
-/
import Derived.Test.YtbebidbjcjoedaaLawHtA
import Derived.Deep.RegionHeld3
namespace Go.Proofs.Ytbebidbjcjoedaa
open Go.RowKit Go.Sort
set_option linter.unusedVariables false
set_option linter.unusedSimpArgs false
set_option maxRecDepth 100000
namespace Htc
open Ht Lgc Rw
theorem beat_start {l : Int} {m : Nat} (h1 : 1 ≤ l) (h2 : l ≤ 20) : ∃ b, beat ⟨l, 0, 0⟩ m = (⟨l, 0, m⟩, b) := by
  by_cases h : 0 < m
  · exact ⟨true, beat_new h1 h2 (by omega) (by omega) h⟩
  · obtain rfl : m = 0 := by omega
    exact ⟨false, by unfold beat; rw [if_pos (Or.inr (Nat.le_refl _))]⟩
theorem beat_old {l s : Int} {n m : Nat} (h : m ≤ n) : beat ⟨l, s, n⟩ m = (⟨l, s, n⟩, false) := by unfold beat; rw [if_pos (Or.inr h)]
set_option maxHeartbeats 2000000 in
theorem limit (a0 a1 a2 : Int) (o3 : Option Addr) (len3 cap3 : Nat) (z3 : List Int) (w0 : (Lit.int .i64 a0).wf = true) (w1 : (Lit.int .i64 a1).wf = true) (w2 : (Lit.int .u64 a2).wf = true) (W : World) (w3 : IsRow .u64 W o3 len3 cap3 z3) :
    Calls Try.prog 4 #[.int .i64 a0, .int .i64 a1, .int .u64 a2, .slice o3 len3 cap3] W fun e w' => e = .returned (.bool true) ∧ Below W.heap.size W w' := by
  have ha2 := bd_u64 w2
  obtain ⟨L, hL, hmax, hwf, hcell⟩ := w3.view
  clear w0 w1 w2 w3
  obtain ⟨sn, rfl⟩ := Int.eq_ofNat_of_zero_le ha2.1
  have hmx : (len3 : Int) ≤ 9223372036854775807 := by unfold maxLen at hmax; omega
  by_cases h1 : a0 < 1
  · go_enter Try.func4, Try.ntmps4
    go_wp2_with (go_at_call 7; refine (awake_any _).mono ?_; rintro e w1 ⟨rfl, hb⟩)
    go_ret
    exact ⟨rfl, hb⟩
  by_cases h2 : (20 : Int) < a0
  · go_enter Try.func4, Try.ntmps4
    go_wp2_with (go_at_call 7; refine (awake_any _).mono ?_; rintro e w1 ⟨rfl, hb⟩)
    go_ret
    exact ⟨rfl, hb⟩
  by_cases h3 : a1 < 0
  · go_enter Try.func4, Try.ntmps4
    go_wp2_with (go_at_call 7; refine (awake_any _).mono ?_; rintro e w1 ⟨rfl, hb⟩)
    go_ret
    exact ⟨rfl, hb⟩
  by_cases h4 : (60 : Int) < a1
  · go_enter Try.func4, Try.ntmps4
    go_wp2_with (go_at_call 7; refine (awake_any _).mono ?_; rintro e w1 ⟨rfl, hb⟩)
    go_ret
    exact ⟨rfl, hb⟩
  by_cases h5 : (60 : Int) < len3
  · go_enter Try.func4, Try.ntmps4
    go_wp2_with (go_at_call 7; refine (awake_any _).mono ?_; rintro e w1 ⟨rfl, hb⟩)
    go_ret
    exact ⟨rfl, hb⟩
  have cN : Hid (∀ w, Calls Try.prog 8 #[.int .i64 a0] w fun e w' => e = .returned (.tuple #[.agg #[.int .i64 a0, .int .i64 0, .int .u64 0], .bool true]) ∧ Held w w') := fun w => by
    have := new_any a0 w; rw [newD_ok (by omega) (by omega)] at this; exact this
  obtain ⟨bb, hbb⟩ := beat_start (l := a0) (m := sn) (by omega) (by omega)
  have cB : Hid (∀ w, Calls Try.prog 10 #[.agg #[.int .i64 a0, .int .i64 0, .int .u64 0], .int .u64 sn] w fun e w' => e = .returned (.tuple #[.agg #[.int .i64 a0, .int .i64 0, .int .u64 sn], .bool bb]) ∧ Held w w') := fun w => by
    have := beat_any a0 0 0 sn (by omega) (by omega) w; rw [hbb] at this; exact this
  have cT : Hid (∀ (i : Nat) w, Calls Try.prog 16 #[.agg #[.int .i64 a0, .int .i64 (min (i : Int) a0), .int .u64 sn]] w fun e w' => e = .returned (.agg #[.int .i64 a0, .int .i64 (min ((i : Int) + 1) a0), .int .u64 sn]) ∧ Held w w') := fun i w => by
    have := tick_any a0 (min (i : Int) a0) sn w
    rw [tick_silent (by omega) (by omega) (by omega)] at this
    exact this
  have cS : Hid (∀ (i : Nat) w, Calls Try.prog 18 #[.agg #[.int .i64 a0, .int .i64 (min (i : Int) a0), .int .u64 sn]] w fun e w' => e = .returned (.bool (decide (a0 ≤ (i : Int)))) ∧ Held w w') := fun i w => by
    have := susp_any a0 (min (i : Int) a0) sn w
    rw [susp_silent (by omega) (by omega) (by omega)] at this
    exact this
  have cO : Hid (∀ (s : Int) (m : Nat), m ≤ sn → ∀ w, Calls Try.prog 10 #[.agg #[.int .i64 a0, .int .i64 s, .int .u64 sn], .int .u64 m] w fun e w' => e = .returned (.tuple #[.agg #[.int .i64 a0, .int .i64 s, .int .u64 sn], .bool false]) ∧ Held w w') := fun s m hm w => by
    have := beat_any a0 s sn m (by omega) (by omega) w
    rw [beat_old hm] at this
    exact this
  have HC := Lib.hid hcell
  have HL := Lib.hid hL
  have HWF := Lib.hid hwf
  clear hcell hL hwf hmax hbb
  go_enter Try.func4, Try.ntmps4
  go_wp2_with fail
  refine (cN.out _).mono ?_
  rintro e w1 ⟨rfl, h⟩
  have HW1 := Lib.hid (h.alloc (.cells #[.int .i64 a0, .int .i64 0, .int .u64 0] 24))
  have D1 : Hid (DB (w1.alloc (.cells #[.int .i64 a0, .int .i64 0, .int .u64 0] 24)) w1.heap.size a0 0 0) := DB.new _ _ _ _
  have hb := h.le
  clear h cN
  go_wp2_with fail
  generalize w1.alloc (.cells #[.int .i64 a0, .int .i64 0, .int .u64 0] 24) = wa at HW1 D1 ⊢
  generalize w1.heap.size = B at D1 hb ⊢
  refine (cB.out _).mono ?_
  rintro e w2 ⟨rfl, h⟩
  have hx := D1.out.held h
  have X2 := Lib.hid hx.bx
  obtain ⟨⟨c0, c1, c2⟩, ⟨f0, f1, f2⟩, lt⟩ := hx.facts
  have HW2 := Lib.hid (HW1.out.step h)
  clear hx h
  go_wp2_with fail
  have D3 : Hid (DB (((w2.setCell ⟨B, 0, none⟩ (.int .i64 a0)).setCell ⟨B, 1, none⟩ (.int .i64 0)).setCell ⟨B, 2, none⟩ (.int .u64 sn)) B a0 0 sn) := DB.put X2.out
  have H3 := Lib.hid (held_put HW2.out hb (.int .i64 a0) (.int .i64 0) (.int .u64 sn))
  generalize ((w2.setCell ⟨B, 0, none⟩ (.int .i64 a0)).setCell ⟨B, 1, none⟩ (.int .i64 0)).setCell ⟨B, 2, none⟩ (.int .u64 sn) = wb at D3 H3 ⊢
  clear c0 c1 c2 f0 f1 f2 lt
  go_loopw [11] (fun i wr => ∃ (k : Nat), (k : Int) ≤ a1 ∧ i = .int .i64 k ∧ DB wr B a0 (min (k : Int) a0) sn ∧ Held W wr) (fun i _ => (a1 - intOf i).toNat)
  case atStart => exact ⟨0, by omega, rfl, by rw [show min ((0 : Nat) : Int) a0 = 0 by omega]; exact D3.out, H3.out⟩
  case round =>
    obtain ⟨k, hk, rfl, hD, hW⟩ := hrel
    obtain ⟨⟨c0, c1, c2⟩, ⟨f0, f1, f2⟩, lt⟩ := hD.facts
    have HD := Lib.hid hD
    have HW := Lib.hid hW
    have cSk := Lib.hid (cS.out k)
    have cTk := Lib.hid (cT.out k)
    clear hD hW
    by_cases hlt : (k : Int) < a1
    · have HMS : Hid (min ((k + 1 : Nat) : Int) a0 = min ((k : Int) + 1) a0) := show _ = _ by congr 1
      generalize min (k : Int) a0 = ms at *
      generalize min ((k : Int) + 1) a0 = ms' at *
      go_wp2_with fail
      refine (cSk.out _).mono ?_
      rintro e w4 ⟨rfl, h⟩
      have hx := HD.out.held h
      have HD4 := Lib.hid hx
      have H4 := Lib.hid (HW.out.step h)
      clear c0 c1 c2 f0 f1 f2 lt
      obtain ⟨⟨c0, c1, c2⟩, ⟨f0, f1, f2⟩, lt⟩ := hx.facts
      clear hx h
      obtain ⟨su, hsu⟩ : ∃ b, decide (a0 ≤ (k : Int)) = b := ⟨_, rfl⟩
      rw [hsu]
      cases su
      all_goals
        simp only [decide_eq_true_eq, decide_eq_false_iff_not] at hsu
        go_wp2_with fail
        refine (cTk.out _).mono ?_
        rintro e w5 ⟨rfl, h⟩
        have hx := HD4.out.held h
        have X5 := Lib.hid hx.bx
        have H5 := Lib.hid (H4.out.step h)
        clear c0 c1 c2 f0 f1 f2 lt
        obtain ⟨⟨c0, c1, c2⟩, ⟨f0, f1, f2⟩, lt⟩ := hx.facts
        clear hx h
        have D6 : Hid (DB (((w5.setCell ⟨B, 0, none⟩ (.int .i64 a0)).setCell ⟨B, 1, none⟩ (.int .i64 ms')).setCell ⟨B, 2, none⟩ (.int .u64 sn)) B a0 ms' sn) := DB.put X5.out
        have H6 := Lib.hid (held_put H5.out hb (.int .i64 a0) (.int .i64 ms') (.int .u64 sn))
        by_cases hkl : k < len3
        · obtain ⟨b, off, rfl, hbW, hcc⟩ := HC.out.resolve_left (by omega)
          have hkL : k < L.length := by rw [HL.out]; exact hkl
          have hxw := bd_u64 (HWF.out _ (List.getElem_mem hkL))
          have q0 := H6.out.cell (hcc k hkL)
          generalize L[k] = x at hxw q0
          obtain ⟨ov, rfl⟩ := Int.eq_ofNat_of_zero_le hxw.1
          clear hcc hkL hxw
          have i1 : (0 : Int) ≤ (k : Int) := by omega
          have i2 : (k : Int) < (len3 : Int) := by omega
          go_wp2_with fail
          generalize ((w5.setCell ⟨B, 0, none⟩ (.int .i64 a0)).setCell ⟨B, 1, none⟩ (.int .i64 ms')).setCell ⟨B, 2, none⟩ (.int .u64 sn) = w6 at D6 H6 q0 ⊢
          clear c0 c1 c2 f0 f1 f2 lt
          obtain ⟨⟨c0, c1, c2⟩, ⟨f0, f1, f2⟩, lt⟩ := D6.out.facts
          by_cases hso : sn < ov
          all_goals go_region_held3 (fun w' => w'.cell? ⟨B, 0, none⟩ = some (.int .i64 a0) ∧ w'.cell? ⟨B, 1, none⟩ = some (.int .i64 ms') ∧ w'.cell? ⟨B, 2, none⟩ = some (.int .u64 sn) ∧ w'.cell? ⟨b, off + k, none⟩ = some (.int .u64 ov) ∧ Held w6 w')
            ((repeat' refine And.intro ?_ ?_) <;> with_reducible first | exact Held.cell (Held.drew (Held.refl _)) c0 | exact Held.cell (Held.drew (Held.refl _)) c1 | exact Held.cell (Held.drew (Held.refl _)) c2 | exact Held.cell (Held.drew (Held.refl _)) q0 | exact c0 | exact c1 | exact c2 | exact q0 | exact (Held.refl _).drew | exact ((Held.refl _).alloc _).drew | exact Held.cell (by assumption) c0 | exact Held.cell (by assumption) c1 | exact Held.cell (by assumption) c2 | exact Held.cell (by assumption) q0 | exact Held.cell (Held.drew (Held.alloc (Held.refl _) _)) c0 | exact Held.cell (Held.drew (Held.alloc (Held.refl _) _)) c1 | exact Held.cell (Held.drew (Held.alloc (Held.refl _) _)) c2 | exact Held.cell (Held.drew (Held.alloc (Held.refl _) _)) q0 | exact Held.cell (Held.alloc (by assumption) _) c0 | exact Held.cell (Held.alloc (by assumption) _) c1 | exact Held.cell (Held.alloc (by assumption) _) c2 | exact Held.cell (Held.alloc (by assumption) _) q0 | exact Held.alloc (by assumption) _ | exact Held.cell (Held.set (Held.set (Held.set (by assumption) (Nat.le_refl _) _) (Nat.le_refl _) _) (Nat.le_refl _) _) c0 | exact Held.cell (Held.set (Held.set (Held.set (by assumption) (Nat.le_refl _) _) (Nat.le_refl _) _) (Nat.le_refl _) _) c1 | exact Held.cell (Held.set (Held.set (Held.set (by assumption) (Nat.le_refl _) _) (Nat.le_refl _) _) (Nat.le_refl _) _) c2 | exact Held.cell (Held.set (Held.set (Held.set (by assumption) (Nat.le_refl _) _) (Nat.le_refl _) _) (Nat.le_refl _) _) q0 | exact Held.set (Held.set (Held.set (by assumption) (Nat.le_refl _) _) (Nat.le_refl _) _) (Nat.le_refl _) _ | exact (by assumption))
            (first
              | (go_at_call 10; refine (cO.out ms' _ (by omega) _).mono ?_; rintro e w7 ⟨rfl, h7⟩; with_reducible (first | (have h8 : Held w6 w7 := Held.step (Held.drew (Held.alloc (Held.refl _) _)) h7; have hn : DB w7 w6.heap.size 0 0 0 := (DB.newAt w6 _ rfl 0 0 0).held (Held.step (Held.drew (Held.refl _)) h7); obtain ⟨⟨e0, e1, e2⟩, ⟨g0, g1, g2⟩, lt'⟩ := hn.facts) | (have h8 : Held w6 w7 := Held.step (Held.drew (Held.refl _)) h7))))
          all_goals
            rename_i hh
            clear hh
            have KZ : ∃ wz C, Hid (Held w6 wz ∧ DB wz C a0 ms' sn) := ⟨w6, B, Lib.hid ⟨Held.refl _, D6.out⟩⟩
            clear KZ
          all_goals first
            | (have KK : Held w6 (((w7.setCell ⟨w6.heap.size, 0, none⟩ (.int .i64 a0)).setCell ⟨w6.heap.size, 1, none⟩ (.int .i64 ms')).setCell ⟨w6.heap.size, 2, none⟩ (.int .u64 sn)) ∧ DB (((w7.setCell ⟨w6.heap.size, 0, none⟩ (.int .i64 a0)).setCell ⟨w6.heap.size, 1, none⟩ (.int .i64 ms')).setCell ⟨w6.heap.size, 2, none⟩ (.int .u64 sn)) w6.heap.size a0 ms' sn := by
                with_reducible exact ⟨Held.set (Held.set (Held.set h8 (Nat.le_refl _) _) (Nat.le_refl _) _) (Nat.le_refl _) _, DB.put hn.bx⟩
               generalize ((w7.setCell ⟨w6.heap.size, 0, none⟩ (.int .i64 a0)).setCell ⟨w6.heap.size, 1, none⟩ (.int .i64 ms')).setCell ⟨w6.heap.size, 2, none⟩ (.int .u64 sn) = wz at KK ⊢
               clear hn h7 h8 e0 e1 e2 g0 g1 g2 lt')
            | (have KK : Held w6 (w7.alloc (.cells #[.int .i64 a0, .int .i64 ms', .int .u64 sn] 24)) ∧ DB (w7.alloc (.cells #[.int .i64 a0, .int .i64 ms', .int .u64 sn] 24)) w7.heap.size a0 ms' sn := by
                with_reducible exact ⟨Held.alloc h8 _, DB.new _ _ _ _⟩
               generalize w7.alloc (.cells #[.int .i64 a0, .int .i64 ms', .int .u64 sn] 24) = wz at KK ⊢
               clear h7 h8)
          all_goals
            obtain ⟨KH, KC⟩ := KK
            have D7 := Lib.hid (D6.out.held KH)
            have H7 := Lib.hid (H6.out.step KH)
            clear KH c0 c1 c2 f0 f1 f2 lt q0
            obtain ⟨⟨c0, c1, c2⟩, ⟨f0, f1, f2⟩, lt⟩ := D7.out.facts
            obtain ⟨⟨d0, d1, d2⟩, -, -⟩ := KC.facts
            clear KC
            go_wp2_with fail
            go_roundw
            case rel => exact ⟨k + 1, by omega, by go_num, by rw [HMS.out]; exact D7.out, H7.out⟩
            case measure => simp [intOf]; omega
        · go_wp2_with fail
          go_roundw
          case rel => exact ⟨k + 1, by omega, by go_num, by rw [HMS.out]; exact D6.out, H6.out⟩
          case measure => simp [intOf]; omega
    · obtain rfl : (k : Int) = a1 := by omega
      obtain ⟨su, hsu⟩ : ∃ b, decide (a0 ≤ (k : Int)) = b := ⟨_, rfl⟩
      rw [hsu] at cSk
      clear cTk
      generalize min (k : Int) a0 = ms at *
      cases su
      all_goals
        simp only [decide_eq_true_eq, decide_eq_false_iff_not] at hsu
        go_wp2_with (first | (go_at_call 18; refine (cSk.out _).mono ?_; rintro e w8 ⟨rfl, h8⟩) | (go_at_call 7; refine (awake_any _).mono ?_; rintro e w9 ⟨rfl, h9⟩))
        go_ret
        first | exact ⟨rfl, HW.out.step (Held.step h8 h9)⟩ | exact ⟨by simp [hsu], HW.out.step (Held.step h8 h9)⟩ | exact ⟨by simp [hsu], HW.out.step h8⟩
end Htc
end Go.Proofs.Ytbebidbjcjoedaa
