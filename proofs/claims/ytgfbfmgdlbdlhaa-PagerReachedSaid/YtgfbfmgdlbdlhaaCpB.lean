/-
  Contracts of compression (chapter 20), part B: the window moves on, and finds the best match.
-/
import Derived.Test.YtgfbfmgdlbdlhaaCpA
import Derived.Outline
set_option linter.unusedVariables false
set_option maxRecDepth 100000
namespace Go.Proofs.Ytgfbfmgdlbdlhaa
open Go.RowKit
open By
namespace Cp
theorem group_key (wb : Nat) (s k : ByteArray) (i : Nat) (w : World) (hc : w.cell? ⟨wb, 0, none⟩ = some (.string s)) (hs : (s.size : Int) ≤ 1099511627776) (hi : i + 4 ≤ s.size) (hk : k = s.extract i (i + 4)) :
    Calls Try.prog 53 #[.pointer (some ⟨wb, 0, none⟩), .int .i64 i] w fun e w' => e = .returned (.tuple #[.string k, .bool true]) ∧ w = w' := by
  subst hk; exact group_some wb s i w hc hs hi
theorem group_key' (wb : Nat) (s k : ByteArray) (i : Int) (j : Nat) (w : World) (hc : w.cell? ⟨wb, 0, none⟩ = some (.string s)) (hs : (s.size : Int) ≤ 1099511627776) (hij : i = j) (hi : j + 4 ≤ s.size) (hk : k = s.extract j (j + 4)) :
    Calls Try.prog 53 #[.pointer (some ⟨wb, 0, none⟩), .int .i64 i] w fun e w' => e = .returned (.tuple #[.string k, .bool true]) ∧ w = w' := by
  subst hk; subst hij; exact group_some wb s j w hc hs hi
theorem occ_snoc (s g : List UInt8) (lo n : Nat) : occ s g lo (n + 1) = occ s g lo n ++ if grp s (lo + n) = some g then [lo + n] else [] := by
  unfold occ
  rw [List.range'_concat, List.filter_append, Nat.one_mul]
  congr 1
  by_cases h : grp s (lo + n) = some g
  · rw [if_pos h, List.filter_cons, if_pos (by simpa using h)]; rfl
  · rw [if_neg h, List.filter_cons, if_neg (by simpa using h)]; rfl
theorem occ_head (s g : List UInt8) (lo n : Nat) : occ s g lo (n + 1) = (if grp s lo = some g then [lo] else []) ++ occ s g (lo + 1) n := by
  unfold occ
  rw [List.range'_succ, List.filter_cons]
  by_cases h : grp s lo = some g
  · rw [if_pos h, if_pos (by simpa using h)]; rfl
  · rw [if_neg h, if_neg (by simpa using h)]; rfl
/-- What the window holds when n has been added and before the eldest goes. -/
def mid (s g : List UInt8) (n : Nat) : List Nat := occ s g (n - 255) (n + 1 - (n - 255))
theorem mid_add (s g : List UInt8) (n : Nat) : mid s g n = pos s g n ++ if grp s n = some g then [n] else [] := by
  unfold mid pos
  rw [show n + 1 - (n - 255) = (n - (n - 255)) + 1 by omega, occ_snoc, show n - 255 + (n - (n - 255)) = n by omega]
theorem mid_old (s g : List UInt8) (n : Nat) (h : 255 ≤ n) : mid s g n = (if grp s (n - 255) = some g then [n - 255] else []) ++ pos s g (n + 1) := by
  unfold mid pos
  rw [show n + 1 - (n - 255) = 255 + 1 by omega, occ_head, show n - 255 + 1 = n + 1 - 255 by omega, show n + 1 - (n + 1 - 255) = 255 by omega]
theorem mid_new (s g : List UInt8) (n : Nat) (h : n < 255) : mid s g n = pos s g (n + 1) := by
  unfold mid pos
  rw [show n - 255 = n + 1 - 255 by omega]
theorem pos_zero (s g : List UInt8) : pos s g 0 = [] := rfl
theorem pos_len (s g : List UInt8) (n : Nat) : (pos s g n).length ≤ 255 := by
  unfold pos occ
  refine Nat.le_trans (List.length_filter_le _ _) ?_
  rw [List.length_range']; omega
theorem up_mid {s g0 : List UInt8} {n : Nat} (h : grp s n = some g0) (g : List UInt8) : Win.Is.up (fun g => pos s g n) g0 (pos s g0 n ++ [n]) g = mid s g n := by
  unfold Win.Is.up
  rw [mid_add]
  by_cases e : g = g0
  · subst e; rw [if_pos rfl, if_pos h]
  · rw [if_neg e, if_neg (by rw [h]; intro e1; injection e1 with e1; exact e e1.symm), List.append_nil]
theorem none_mid {s : List UInt8} {n : Nat} (h : grp s n = none) (g : List UInt8) : pos s g n = mid s g n := by
  rw [mid_add, if_neg (by rw [h]; intro e; cases e), List.append_nil]
theorem up_old {s g1 : List UInt8} {n : Nat} (hn : 255 ≤ n) (h : grp s (n - 255) = some g1) (g : List UInt8) : Win.Is.up (fun g => mid s g n) g1 (pos s g1 (n + 1)) g = pos s g (n + 1) := by
  unfold Win.Is.up
  by_cases e : g = g1
  · subst e; rw [if_pos rfl]
  · rw [if_neg e]
    show mid s g n = _
    rw [mid_old s g n hn, if_neg (by rw [h]; intro e1; injection e1 with e1; exact e e1.symm), List.nil_append]
theorem grp_ex (s : ByteArray) (i : Nat) (h : i + 4 ≤ s.size) : grp s.data.toList i = some (s.extract i (i + 4)).data.toList := by
  unfold grp
  rw [if_pos (by rw [size_len]; exact h), ex_list, show i + 4 - i = 4 by omega]
theorem grp_no (s : ByteArray) (i : Nat) (h : s.size < i + 4) : grp s.data.toList i = none := by
  unfold grp
  rw [if_neg (by rw [size_len]; omega)]
/-- The window over s, that has come to position i: its own block wb, the map m. -/
structure Mv (wb m : Nat) (s : ByteArray) (F : Nat → Prop) (w0 : World) (i : Nat) (P : List UInt8 → List Nat) (w : World) : Prop where
  blk : w.heap[wb]? = some (.cells #[.string s, .map (some m), .int .i64 (i : Int)] 75 (0, 0))
  win : ∃ F', Win.Win 3 w m F' P ∧ ∀ b, F' b → F b ∨ w0.heap.size ≤ b
  kept : Win.Kept (fun b => F b ∨ b = wb) w0 w
namespace Mv
variable {wb m i : Nat} {s : ByteArray} {F : Nat → Prop} {w0 w : World} {P : List UInt8 → List Nat}
theorem cells (h : Mv wb m s F w0 i P w) : w.cell? ⟨wb, 0, none⟩ = some (.string s) ∧ w.cell? ⟨wb, 1, none⟩ = some (.map (some m)) ∧ w.cell? ⟨wb, 2, none⟩ = some (.int .i64 (i : Int)) ∧ w.frozen? ⟨wb, 2, none⟩ = false := by
  have := h.blk
  exact ⟨by simp [World.cell?, this], by simp [World.cell?, this], by simp [World.cell?, this], by simp [World.frozen?, this]⟩
theorem lt (h : Mv wb m s F w0 i P w) : wb < w.heap.size := (Array.getElem?_eq_some_iff.1 h.blk).1
theorem held {w' : World} (h : Mv wb m s F w0 i P w) (k : Held w w') : Mv wb m s F w0 i P w' := by
  obtain ⟨F', ⟨es, c, V, h1⟩, h2⟩ := h.win
  exact ⟨(k.block wb h.lt).trans h.blk, ⟨F', ⟨es, c, V, h1.held k⟩, h2⟩, h.kept.trans (G := fun _ => False) (Win.Kept.of_held k) (fun _ h => absurd h (fun h => h))⟩
theorem step {w' : World} {F' G : Nat → Prop} {Q : List UInt8 → List Nat} (h : Mv wb m s F w0 i P w) (hF : ¬ F wb) (hw : wb < w0.heap.size) (hF' : ∀ b, F' b → F b ∨ w0.heap.size ≤ b) (k : Win.Kept F' w w') (hwin : Win.Win 3 w' m G Q) (hG : ∀ b, G b → F b ∨ w0.heap.size ≤ b) : Mv wb m s F w0 i Q w' :=
  ⟨(k.block wb h.lt (fun hb => by rcases hF' wb hb with h1 | h1; exact hF h1; omega)).trans h.blk, ⟨G, hwin, hG⟩, h.kept.trans k (fun b hb => (hF' b hb).imp .inl id)⟩
theorem congr {Q : List UInt8 → List Nat} (h : Mv wb m s F w0 i P w) (hP : ∀ g, P g = Q g) : Mv wb m s F w0 i Q w := by
  have : P = Q := funext hP
  rw [← this]; exact h
theorem next (h : Mv wb m s F w0 i P w) (hF : ¬ F wb) (hw : wb < w0.heap.size) : Mv wb m s F w0 (i + 1) P (w.setCell ⟨wb, 2, none⟩ (.int .i64 ((i : Int) + 1))) := by
  have hset : (w.setCell ⟨wb, 2, none⟩ (.int .i64 ((i : Int) + 1))).heap[wb]? = some (.cells #[.string s, .map (some m), .int .i64 ((i + 1 : Nat) : Int)] 75 (0, 0)) := by
    simp only [World.setCell]
    rw [Array.getElem?_modify, if_pos rfl, h.blk]; rfl
  have hk : Win.Kept (fun b => b = wb) w (w.setCell ⟨wb, 2, none⟩ (.int .i64 ((i : Int) + 1))) := by
    refine ⟨rfl, rfl, rfl, by simp [World.setCell], fun b hb hne => ?_⟩
    simp only [World.setCell]
    rw [Array.getElem?_modify, if_neg (fun e => hne e.symm)]
  obtain ⟨F', ⟨es, c, V, h1⟩, h2⟩ := h.win
  refine ⟨hset, ⟨F', ⟨es, c, V, h1.kept hk (fun b hb e => ?_)⟩, h2⟩, h.kept.trans hk (fun b hb => .inl (.inr hb))⟩
  subst e
  rcases h2 b hb with h3 | h3
  · exact hF h3
  · omega
end Mv
def nextOf (wb : Nat) (w : World) : Nat := match w.cell? ⟨wb, 2, none⟩ with | some (.int _ n) => n.toNat | _ => 0
theorem nextOf_eq {wb m i : Nat} {s : ByteArray} {F : Nat → Prop} {w0 w : World} {P : List UInt8 → List Nat} (h : Mv wb m s F w0 i P w) : nextOf wb w = i := by
  unfold nextOf; rw [h.cells.2.2.1]; simp
theorem info_int : (Try.prog.info? 3).map (fun i => (i.zero, i.size, i.bytes)) = some (some (.int .i64 0), 1, 8) := by kernel_rfl
theorem zero_ints (w : World) : (zeroValue 43).run Try.prog w = .ok (.slice none 0 0) w := by kernel_rfl
set_option maxHeartbeats 8000000 in
theorem move_any (wb m : Nat) (s : ByteArray) (F : Nat → Prop) (w : World) (i0 i : Nat) (hs : (s.size : Int) ≤ 1099511627776) (hF : ¬ F wb) (hi : i ≤ s.size) (h : Mv wb m s F w i0 (fun g => pos s.data.toList g i0) w) (h0 : i0 ≤ i) :
    Calls Try.prog 48 #[.pointer (some ⟨wb, 0, none⟩), .int .i64 i] w fun e w' => e = .returned (.tuple #[]) ∧ Mv wb m s F w i (fun g => pos s.data.toList g i) w' := by
  have hwb := h.lt
  go_enter Try.func48, Try.ntmps48
  go_wp2
  go_loopw [] (fun wr => ∃ n : Nat, n ≤ i ∧ Mv wb m s F w n (fun g => pos s.data.toList g n) wr) (fun wr => i - nextOf wb wr)
  case atStart => exact ⟨i0, h0, h⟩
  case round =>
    obtain ⟨n, hn, hm⟩ := hrel
    obtain ⟨c0, c1, c2, c3⟩ := hm.cells
    have HM := Lib.hid hm
    have HN := Lib.hid (nextOf_eq hm)
    clear hm h
    by_cases hlt : n < i
    · have hni' : (n : Int) < i := by omega
      have hsz : (n : Int) ≤ s.size := by omega
      by_cases hg : n + 4 ≤ s.size
      · obtain ⟨F', ⟨es, cl, V, hI⟩, hF'⟩ := HM.out.win
        obtain ⟨k, hk⟩ : ∃ k, k = s.extract n (n + 4) := ⟨_, rfl⟩
        have hks : k.size ≤ maxLen := by rw [hk]; unfold maxLen; simp; omega
        have hgk : grp s.data.toList n = some k.data.toList := by rw [hk]; exact grp_ex s n hg
        have hlk := fun (w' : World) (hw' : w'.heap[m]? = wr.heap[m]?) => hI.look (Pr := Try.prog) (kt := 9) (t := 73) Try.underlying9 Try.underlying73 zero_ints k hks hw'
        have hk1 := hlk wr.drew rfl
        have hk2 := hlk ((wr.alloc (.cells #[.int .i64 (n : Int)] 3)).drew) (Below.heap_alloc wr _ m (hI.lt m hI.own))
        have hk3 := hlk ((wr.drew.alloc (.cells #[.int .i64 (n : Int)] 3))) (Below.heap_alloc wr.drew _ m (hI.lt m hI.own))
        have ha := (hI.held (((Held.refl wr).alloc (.cells #[.int .i64 (n : Int)] 3)).drew)).add (Pr := Try.prog) (kt := 9) (mt := 73) (t := 43) (ty := 43) Try.underlying9 Try.underlying73 Try.underlying43 info_int k hks n (ad := ⟨wr.heap.size, 0, none⟩) (c := 1) (by simp) (by have := pos_len s.data.toList k.data.toList n; omega)
        obtain ⟨v', w2, w3, F3, hr2, hr3, hw3, hF3, hkp2, hkp3⟩ := ha
        have hw1 : Held wr (wr.alloc (.cells #[.int .i64 (n : Int)] 3)).drew := ((Held.refl wr).alloc _).drew
        have hFb : ¬ F' wb := fun hb => by rcases hF' wb hb with h1 | h1; exact hF h1; omega
        have p1 := hw1.cell c1
        have p2 := hw1.cell c2
        have q1 := hkp2.cell p1 hFb
        have q2 := hkp2.cell p2 hFb
        have t1 := hkp3.cell p1 hFb
        have t2 := hkp3.cell p2 hFb
        have HG := Lib.hid (group_key wb s k n wr c0 hs hg hk)
        have HP := Lib.hid hw3
        have HK := Lib.hid hgk
        have HI := Lib.hid hI
        clear hlk hk hw3 hgk hks hI
        go_wp2_with (go_at_call 53; refine HG.out.mono ?_; rintro e w' ⟨rfl, rfl⟩)
        go_region_held3 (fun w' => w'.cell? ⟨wb, 1, none⟩ = some (.map (some m)) ∧ w'.cell? ⟨wb, 2, none⟩ = some (.int .i64 (n : Int))) (first | exact ⟨c1, c2⟩ | exact ⟨p1, p2⟩ | exact ⟨q1, q2⟩ | exact ⟨t1, t2⟩) (refine By.step_run (by rfl) _ _ _ _ 43 (by rfl) (by rfl) (by rfl) (by rfl) hr2 ?_)
        all_goals
          have HX := Lib.hid ((HM.out.step hF hwb (F' := F') (G := F3) hF' ((Win.Kept.of_held hw1).trans hkp3 (fun _ h => .inl h)) HP.out (fun b hb => by
            rcases hF3 b hb with h1 | h1
            · exact hF' b h1
            · exact .inr (Nat.le_trans HM.out.kept.size (Nat.le_trans hw1.le h1)))).congr (fun g => up_mid HK.out g))
          clear hk1 hk2 hk3 hr2 hr3 hkp2 hkp3 hF3 hw1 p1 p2 q1 q2 t1 t2 HG HP HK HI hF' hFb c0 c1 c2 c3
          obtain ⟨wX, hwX⟩ : ∃ x, x = w3 := ⟨_, rfl⟩
          rw [← hwX] at HX ⊢
          clear hwX
          obtain ⟨c0, c1, c2, c3⟩ := HX.out.cells
          by_cases h255 : n < 255
          · have HG := Lib.hid (group_none wb s ((n : Int) - 255) wX c0 hs (by omega) (by omega) (by omega))
            go_wp2_with (go_at_call 53; refine HG.out.mono ?_; rintro e w' ⟨rfl, rfl⟩)
            go_roundw
            case rel => exact ⟨n + 1, by omega, (HX.out.congr (fun g => mid_new _ g n h255)).next hF hwb⟩
            case measure =>
              have := nextOf_eq (HX.out.next hF hwb)
              rw [this, HN.out]; omega
          · obtain ⟨k1, hk1⟩ : ∃ k, k = s.extract (n - 255) (n - 255 + 4) := ⟨_, rfl⟩
            have hks1 : k1.size ≤ maxLen := by rw [hk1]; unfold maxLen; simp; omega
            have hgk1 : grp s.data.toList (n - 255) = some k1.data.toList := by rw [hk1]; exact grp_ex s _ (by omega)
            have HG := Lib.hid (group_key' wb s k1 ((n : Int) - 255) (n - 255) wX c0 hs (by omega) (by omega) hk1)
            obtain ⟨F1, ⟨es1, cl1, V1, hI1⟩, hF1⟩ := HX.out.win
            have hF1b : ¬ F1 wb := fun hb => by rcases hF1 wb hb with h1 | h1; exact hF h1; omega
            have hP1 : mid s.data.toList k1.data.toList n = (n - 255) :: pos s.data.toList k1.data.toList (n + 1) := by
              rw [mid_old s.data.toList k1.data.toList n (by omega), if_pos hgk1]; rfl
            have hlk := hI1.look (Pr := Try.prog) (kt := 9) (t := 73) Try.underlying9 Try.underlying73 zero_ints k1 hks1 (w' := wX) rfl
            by_cases hz : pos s.data.toList k1.data.toList (n + 1) = []
            · obtain ⟨w4, hr4, hw4, hkp4⟩ := hI1.drop (Pr := Try.prog) (kt := 9) (mt := 73) (t := 43) (ty := 0) Try.underlying9 Try.underlying73 k1 hks1
              obtain ⟨b, off, cap, hv⟩ : ∃ b off cap, Win.val V1 k1 = .slice (some ⟨b, off, none⟩) 1 cap := by
                rcases hI1.val_is k1 with ⟨_, h2, _⟩ | ⟨b, _, _, _, off, cap, cells, h3, _⟩
                · rw [hP1, hz] at h2; cases h2
                · rw [hP1, hz] at h3; exact ⟨b, off, cap, h3⟩
              rw [hv] at hlk
              have HW4 := Lib.hid ((HX.out.step hF hwb hF1 hkp4 hw4 hF1).congr (Q := fun g => pos s.data.toList g (n + 1)) (fun g => by have := up_old (s := s.data.toList) (by omega) hgk1 g; rw [hz] at this; exact this))
              clear hz hP1 hI1 hw4 hkp4 hk1 hgk1 hks1 hv hF1 hF1b
              go_wp2_with (first | (go_at_call 53; refine HG.out.mono ?_; rintro e w' ⟨rfl, rfl⟩) | (refine By.list_delete rfl _ _ _ _ 0 rfl rfl rfl rfl hr4 ?_; obtain ⟨d0, d1, d2, d3⟩ := HW4.out.cells))
              go_roundw
              case rel => exact ⟨n + 1, by omega, HW4.out.next hF hwb⟩
              case measure =>
                have := nextOf_eq (HW4.out.next hF hwb)
                rw [this, HN.out]; omega
            · obtain ⟨b, off, cap, w4, F4, hv, hc1, hc2, hr4, hw4, hF4, hkp4⟩ := (hI1.held (Held.refl wX).drew).tail (Pr := Try.prog) (kt := 9) (mt := 73) (t := 43) Try.underlying9 Try.underlying73 k1 hks1 _ _ hP1 hz
              rw [hv] at hlk
              have hkp5 : Win.Kept F1 wX w4 := (Win.Kept.of_held (Held.refl wX).drew).trans hkp4 (fun _ h => .inl h)
              have HW4 := Lib.hid ((HX.out.step hF hwb hF1 hkp5 hw4 (fun b hb => hF1 b (hF4 b hb))).congr (Q := fun g => pos s.data.toList g (n + 1)) (fun g => up_old (s := s.data.toList) (by omega) hgk1 g))
              obtain ⟨d0, d1, d2, d3⟩ := HW4.out.cells
              have hl1 := List.length_pos_iff.2 hz
              have hl2 := pos_len s.data.toList k1.data.toList (n + 1)
              generalize (pos s.data.toList k1.data.toList (n + 1)).length = len at hlk hl1 hl2 hc1 hr4
              have hc3 : (len : Int) + 1 ≤ cap := by omega
              have hc4 : ¬ cap = 1 := by omega
              have hc5 : (1 : Int) ≤ cap := by omega
              have hc6 : (1 : Int) ≤ (len : Int) + 1 := by omega
              have hc7 : (1 : Int) < (len : Int) + 1 := by omega
              clear hz hP1 hI1 hw4 hkp4 hkp5 hk1 hgk1 hks1 hv hF1 hF1b hF4
              go_wp2_with (go_at_call 53; refine HG.out.mono ?_; rintro e w' ⟨rfl, rfl⟩)
              go_region_held3 (fun w' => w'.cell? ⟨wb, 1, none⟩ = some (.map (some m))) (first | exact c1 | exact d1) (fail)
              all_goals
                go_wp2
                go_roundw
                case rel => exact ⟨n + 1, by omega, HW4.out.next hF hwb⟩
                case measure =>
                  have := nextOf_eq (HW4.out.next hF hwb)
                  rw [this, HN.out]; omega
      · have hgn := grp_no s n (by omega)
        have HX := Lib.hid (HM.out.congr (fun g => none_mid hgn g))
        have HG := Lib.hid (group_none wb s n wr c0 hs (by omega) (by omega) (by omega))
        clear hgn hg
        go_wp2_with fail
        refine HG.out.mono ?_
        rintro e w' ⟨rfl, rfl⟩
        clear HG c0 c1 c2 c3
        obtain ⟨wX, hwX⟩ : ∃ x, x = wr := ⟨_, rfl⟩
        rw [← hwX] at HX ⊢
        clear hwX
        obtain ⟨c0, c1, c2, c3⟩ := HX.out.cells
        by_cases h255 : n < 255
        · have HG := Lib.hid (group_none wb s ((n : Int) - 255) wX c0 hs (by omega) (by omega) (by omega))
          go_wp2_with (go_at_call 53; refine HG.out.mono ?_; rintro e w' ⟨rfl, rfl⟩)
          go_roundw
          case rel => exact ⟨n + 1, by omega, (HX.out.congr (fun g => mid_new _ g n h255)).next hF hwb⟩
          case measure =>
            have := nextOf_eq (HX.out.next hF hwb)
            rw [this, HN.out]; omega
        · obtain ⟨k1, hk1⟩ : ∃ k, k = s.extract (n - 255) (n - 255 + 4) := ⟨_, rfl⟩
          have hks1 : k1.size ≤ maxLen := by rw [hk1]; unfold maxLen; simp; omega
          have hgk1 : grp s.data.toList (n - 255) = some k1.data.toList := by rw [hk1]; exact grp_ex s _ (by omega)
          have HG := Lib.hid (group_key' wb s k1 ((n : Int) - 255) (n - 255) wX c0 hs (by omega) (by omega) hk1)
          obtain ⟨F1, ⟨es1, cl1, V1, hI1⟩, hF1⟩ := HX.out.win
          have hF1b : ¬ F1 wb := fun hb => by rcases hF1 wb hb with h1 | h1; exact hF h1; omega
          have hP1 : mid s.data.toList k1.data.toList n = (n - 255) :: pos s.data.toList k1.data.toList (n + 1) := by
            rw [mid_old s.data.toList k1.data.toList n (by omega), if_pos hgk1]; rfl
          have hlk := hI1.look (Pr := Try.prog) (kt := 9) (t := 73) Try.underlying9 Try.underlying73 zero_ints k1 hks1 (w' := wX) rfl
          by_cases hz : pos s.data.toList k1.data.toList (n + 1) = []
          · obtain ⟨w4, hr4, hw4, hkp4⟩ := hI1.drop (Pr := Try.prog) (kt := 9) (mt := 73) (t := 43) (ty := 0) Try.underlying9 Try.underlying73 k1 hks1
            obtain ⟨b, off, cap, hv⟩ : ∃ b off cap, Win.val V1 k1 = .slice (some ⟨b, off, none⟩) 1 cap := by
              rcases hI1.val_is k1 with ⟨_, h2, _⟩ | ⟨b, _, _, _, off, cap, cells, h3, _⟩
              · rw [hP1, hz] at h2; cases h2
              · rw [hP1, hz] at h3; exact ⟨b, off, cap, h3⟩
            rw [hv] at hlk
            have HW4 := Lib.hid ((HX.out.step hF hwb hF1 hkp4 hw4 hF1).congr (Q := fun g => pos s.data.toList g (n + 1)) (fun g => by have := up_old (s := s.data.toList) (by omega) hgk1 g; rw [hz] at this; exact this))
            clear hz hP1 hI1 hw4 hkp4 hk1 hgk1 hks1 hv hF1 hF1b
            go_wp2_with (first | (go_at_call 53; refine HG.out.mono ?_; rintro e w' ⟨rfl, rfl⟩) | (refine By.list_delete rfl _ _ _ _ 0 rfl rfl rfl rfl hr4 ?_; obtain ⟨d0, d1, d2, d3⟩ := HW4.out.cells))
            go_roundw
            case rel => exact ⟨n + 1, by omega, HW4.out.next hF hwb⟩
            case measure =>
              have := nextOf_eq (HW4.out.next hF hwb)
              rw [this, HN.out]; omega
          · obtain ⟨b, off, cap, w4, F4, hv, hc1, hc2, hr4, hw4, hF4, hkp4⟩ := (hI1.held (Held.refl wX).drew).tail (Pr := Try.prog) (kt := 9) (mt := 73) (t := 43) Try.underlying9 Try.underlying73 k1 hks1 _ _ hP1 hz
            rw [hv] at hlk
            have hkp5 : Win.Kept F1 wX w4 := (Win.Kept.of_held (Held.refl wX).drew).trans hkp4 (fun _ h => .inl h)
            have HW4 := Lib.hid ((HX.out.step hF hwb hF1 hkp5 hw4 (fun b hb => hF1 b (hF4 b hb))).congr (Q := fun g => pos s.data.toList g (n + 1)) (fun g => up_old (s := s.data.toList) (by omega) hgk1 g))
            obtain ⟨d0, d1, d2, d3⟩ := HW4.out.cells
            have hl1 := List.length_pos_iff.2 hz
            have hl2 := pos_len s.data.toList k1.data.toList (n + 1)
            generalize (pos s.data.toList k1.data.toList (n + 1)).length = len at hlk hl1 hl2 hc1 hr4
            have hc3 : (len : Int) + 1 ≤ cap := by omega
            have hc4 : ¬ cap = 1 := by omega
            have hc5 : (1 : Int) ≤ cap := by omega
            have hc6 : (1 : Int) ≤ (len : Int) + 1 := by omega
            have hc7 : (1 : Int) < (len : Int) + 1 := by omega
            clear hz hP1 hI1 hw4 hkp4 hkp5 hk1 hgk1 hks1 hv hF1 hF1b hF4
            go_wp2_with (go_at_call 53; refine HG.out.mono ?_; rintro e w' ⟨rfl, rfl⟩)
            go_region_held3 (fun w' => w'.cell? ⟨wb, 1, none⟩ = some (.map (some m))) (first | exact c1 | exact d1) (fail)
            all_goals
              go_wp2
              go_roundw
              case rel => exact ⟨n + 1, by omega, HW4.out.next hF hwb⟩
              case measure =>
                have := nextOf_eq (HW4.out.next hF hwb)
                rw [this, HN.out]; omega
    · have hni : n = i := by omega
      subst hni
      go_wp2
      go_end0
      exact ⟨rfl, HM.out⟩
end Cp
end Go.Proofs.Ytgfbfmgdlbdlhaa
