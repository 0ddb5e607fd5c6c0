/-
  Contracts of compression (chapter 20), part B: the window moves on, and finds the best match.
  Contracts of compression (chapter 20), part C: the window's best match.
  Contracts of compression (chapter 20), part D: Compress, the program's and the reference's.
-/
import Derived.Test.YthpjbffhdaaibaaGreatZ4
import Derived.Outline
set_option linter.unusedVariables false
set_option maxRecDepth 100000
namespace Go.Proofs.YthpjbffhdaaibaaGreat
open Go.RowKit
open By
namespace Cp
theorem group_key (wb : Nat) (s k : ByteArray) (i : Nat) (w : World) (hc : w.cell? ⟨wb, 0, none⟩ = some (.string s)) (hs : (s.size : Int) ≤ 1099511627776) (hi : i + 4 ≤ s.size) (hk : k = s.extract i (i + 4)) :
    Calls Tryz.prog 99 #[.pointer (some ⟨wb, 0, none⟩), .int .i64 i] w fun e w' => e = .returned (.tuple #[.string k, .bool true]) ∧ w = w' := by
  subst hk; exact group_some wb s i w hc hs hi
theorem group_key' (wb : Nat) (s k : ByteArray) (i : Int) (j : Nat) (w : World) (hc : w.cell? ⟨wb, 0, none⟩ = some (.string s)) (hs : (s.size : Int) ≤ 1099511627776) (hij : i = j) (hi : j + 4 ≤ s.size) (hk : k = s.extract j (j + 4)) :
    Calls Tryz.prog 99 #[.pointer (some ⟨wb, 0, none⟩), .int .i64 i] w fun e w' => e = .returned (.tuple #[.string k, .bool true]) ∧ w = w' := by
  subst hk; subst hij; exact group_some wb s j w hc hs hi
theorem occ_snoc (s g : List UInt8) (lo n : Nat) : occ s g lo (n + 1) = occ s g lo n ++ if grp s (lo + n) = some g then [lo + n] else [] := by
  unfold occ
  rw [List.range'_concat, List.filter_append, Nat.one_mul]
  congr 1
  by_cases h : grp s (lo + n) = some g
  · rw [if_pos h, List.filter_cons, if_pos (by simpa using h)]; rfl
  · rw [if_neg h, List.filter_cons, if_neg (by simpa using h)]; rfl
theorem occ_head (s g : List UInt8) (lo n : Nat) : occ s g lo (n + 1) = (if grp s lo = some g then [lo] else []) ++ occ s g (lo + 1) n := by
  unfold occ
  rw [List.range'_succ, List.filter_cons]
  by_cases h : grp s lo = some g
  · rw [if_pos h, if_pos (by simpa using h)]; rfl
  · rw [if_neg h, if_neg (by simpa using h)]; rfl
/-- What the window holds when n has been added and before the eldest goes. -/
def mid (s g : List UInt8) (n : Nat) : List Nat := occ s g (n - 255) (n + 1 - (n - 255))
theorem mid_add (s g : List UInt8) (n : Nat) : mid s g n = pos s g n ++ if grp s n = some g then [n] else [] := by
  unfold mid pos
  rw [show n + 1 - (n - 255) = (n - (n - 255)) + 1 by omega, occ_snoc, show n - 255 + (n - (n - 255)) = n by omega]
theorem mid_old (s g : List UInt8) (n : Nat) (h : 255 ≤ n) : mid s g n = (if grp s (n - 255) = some g then [n - 255] else []) ++ pos s g (n + 1) := by
  unfold mid pos
  rw [show n + 1 - (n - 255) = 255 + 1 by omega, occ_head, show n - 255 + 1 = n + 1 - 255 by omega, show n + 1 - (n + 1 - 255) = 255 by omega]
theorem mid_new (s g : List UInt8) (n : Nat) (h : n < 255) : mid s g n = pos s g (n + 1) := by
  unfold mid pos
  rw [show n - 255 = n + 1 - 255 by omega]
theorem pos_zero (s g : List UInt8) : pos s g 0 = [] := rfl
theorem pos_len (s g : List UInt8) (n : Nat) : (pos s g n).length ≤ 255 := by
  unfold pos occ
  refine Nat.le_trans (List.length_filter_le _ _) ?_
  rw [List.length_range']; omega
theorem up_mid {s g0 : List UInt8} {n : Nat} (h : grp s n = some g0) (g : List UInt8) : Win.Is.up (fun g => pos s g n) g0 (pos s g0 n ++ [n]) g = mid s g n := by
  unfold Win.Is.up
  rw [mid_add]
  by_cases e : g = g0
  · subst e; rw [if_pos rfl, if_pos h]
  · rw [if_neg e, if_neg (by rw [h]; intro e1; injection e1 with e1; exact e e1.symm), List.append_nil]
theorem none_mid {s : List UInt8} {n : Nat} (h : grp s n = none) (g : List UInt8) : pos s g n = mid s g n := by
  rw [mid_add, if_neg (by rw [h]; intro e; cases e), List.append_nil]
theorem up_old {s g1 : List UInt8} {n : Nat} (hn : 255 ≤ n) (h : grp s (n - 255) = some g1) (g : List UInt8) : Win.Is.up (fun g => mid s g n) g1 (pos s g1 (n + 1)) g = pos s g (n + 1) := by
  unfold Win.Is.up
  by_cases e : g = g1
  · subst e; rw [if_pos rfl]
  · rw [if_neg e]
    show mid s g n = _
    rw [mid_old s g n hn, if_neg (by rw [h]; intro e1; injection e1 with e1; exact e e1.symm), List.nil_append]
theorem grp_ex (s : ByteArray) (i : Nat) (h : i + 4 ≤ s.size) : grp s.data.toList i = some (s.extract i (i + 4)).data.toList := by
  unfold grp
  rw [if_pos (by rw [size_len]; exact h), ex_list, show i + 4 - i = 4 by omega]
theorem grp_no (s : ByteArray) (i : Nat) (h : s.size < i + 4) : grp s.data.toList i = none := by
  unfold grp
  rw [if_neg (by rw [size_len]; omega)]
/-- The window over s, that has come to position i: its own block wb, the map m. -/
structure Mv (wb m : Nat) (s : ByteArray) (F : Nat → Prop) (w0 : World) (i : Nat) (P : List UInt8 → List Nat) (w : World) : Prop where
  blk : w.heap[wb]? = some (.cells #[.string s, .map (some m), .int .i64 (i : Int)] 105 (0, 0))
  win : ∃ F', Win.Win 3 w m F' P ∧ ∀ b, F' b → F b ∨ w0.heap.size ≤ b
  kept : Win.Kept (fun b => F b ∨ b = wb) w0 w
namespace Mv
variable {wb m i : Nat} {s : ByteArray} {F : Nat → Prop} {w0 w : World} {P : List UInt8 → List Nat}
theorem cells (h : Mv wb m s F w0 i P w) : w.cell? ⟨wb, 0, none⟩ = some (.string s) ∧ w.cell? ⟨wb, 1, none⟩ = some (.map (some m)) ∧ w.cell? ⟨wb, 2, none⟩ = some (.int .i64 (i : Int)) ∧ w.frozen? ⟨wb, 2, none⟩ = false := by
  have := h.blk
  exact ⟨by simp [World.cell?, this], by simp [World.cell?, this], by simp [World.cell?, this], by simp [World.frozen?, this]⟩
theorem lt (h : Mv wb m s F w0 i P w) : wb < w.heap.size := (Array.getElem?_eq_some_iff.1 h.blk).1
theorem held {w' : World} (h : Mv wb m s F w0 i P w) (k : Held w w') : Mv wb m s F w0 i P w' := by
  obtain ⟨F', ⟨es, c, V, h1⟩, h2⟩ := h.win
  exact ⟨(k.block wb h.lt).trans h.blk, ⟨F', ⟨es, c, V, h1.held k⟩, h2⟩, h.kept.trans (G := fun _ => False) (Win.Kept.of_held k) (fun _ h => absurd h (fun h => h))⟩
theorem step {w' : World} {F' G : Nat → Prop} {Q : List UInt8 → List Nat} (h : Mv wb m s F w0 i P w) (hF : ¬ F wb) (hw : wb < w0.heap.size) (hF' : ∀ b, F' b → F b ∨ w0.heap.size ≤ b) (k : Win.Kept F' w w') (hwin : Win.Win 3 w' m G Q) (hG : ∀ b, G b → F b ∨ w0.heap.size ≤ b) : Mv wb m s F w0 i Q w' :=
  ⟨(k.block wb h.lt (fun hb => by rcases hF' wb hb with h1 | h1; exact hF h1; omega)).trans h.blk, ⟨G, hwin, hG⟩, h.kept.trans k (fun b hb => (hF' b hb).imp .inl id)⟩
theorem congr {Q : List UInt8 → List Nat} (h : Mv wb m s F w0 i P w) (hP : ∀ g, P g = Q g) : Mv wb m s F w0 i Q w := by
  have : P = Q := funext hP
  rw [← this]; exact h
theorem next (h : Mv wb m s F w0 i P w) (hF : ¬ F wb) (hw : wb < w0.heap.size) : Mv wb m s F w0 (i + 1) P (w.setCell ⟨wb, 2, none⟩ (.int .i64 ((i : Int) + 1))) := by
  have hset : (w.setCell ⟨wb, 2, none⟩ (.int .i64 ((i : Int) + 1))).heap[wb]? = some (.cells #[.string s, .map (some m), .int .i64 ((i + 1 : Nat) : Int)] 105 (0, 0)) := by
    simp only [World.setCell]
    rw [Array.getElem?_modify, if_pos rfl, h.blk]; rfl
  have hk : Win.Kept (fun b => b = wb) w (w.setCell ⟨wb, 2, none⟩ (.int .i64 ((i : Int) + 1))) := by
    refine ⟨rfl, rfl, rfl, by simp [World.setCell], fun b hb hne => ?_⟩
    simp only [World.setCell]
    rw [Array.getElem?_modify, if_neg (fun e => hne e.symm)]
  obtain ⟨F', ⟨es, c, V, h1⟩, h2⟩ := h.win
  refine ⟨hset, ⟨F', ⟨es, c, V, h1.kept hk (fun b hb e => ?_)⟩, h2⟩, h.kept.trans hk (fun b hb => .inl (.inr hb))⟩
  subst e
  rcases h2 b hb with h3 | h3
  · exact hF h3
  · omega
end Mv
def nextOf (wb : Nat) (w : World) : Nat := match w.cell? ⟨wb, 2, none⟩ with | some (.int _ n) => n.toNat | _ => 0
theorem nextOf_eq {wb m i : Nat} {s : ByteArray} {F : Nat → Prop} {w0 w : World} {P : List UInt8 → List Nat} (h : Mv wb m s F w0 i P w) : nextOf wb w = i := by
  unfold nextOf; rw [h.cells.2.2.1]; simp
theorem info_int : (Tryz.prog.info? 3).map (fun i => (i.zero, i.size, i.bytes)) = some (some (.int .i64 0), 1, 8) := by kernel_rfl
theorem zero_ints (w : World) : (zeroValue 58).run Tryz.prog w = .ok (.slice none 0 0) w := by kernel_rfl
set_option maxHeartbeats 8000000 in
theorem move_any (wb m : Nat) (s : ByteArray) (F : Nat → Prop) (w : World) (i0 i : Nat) (hs : (s.size : Int) ≤ 1099511627776) (hF : ¬ F wb) (hi : i ≤ s.size) (h : Mv wb m s F w i0 (fun g => pos s.data.toList g i0) w) (h0 : i0 ≤ i) :
    Calls Tryz.prog 68 #[.pointer (some ⟨wb, 0, none⟩), .int .i64 i] w fun e w' => e = .returned (.tuple #[]) ∧ Mv wb m s F w i (fun g => pos s.data.toList g i) w' := by
  have hwb := h.lt
  go_enter Tryz.func68, Tryz.ntmps68
  go_wp2
  go_loopw [] (fun wr => ∃ n : Nat, n ≤ i ∧ Mv wb m s F w n (fun g => pos s.data.toList g n) wr) (fun wr => i - nextOf wb wr)
  case atStart => exact ⟨i0, h0, h⟩
  case round =>
    obtain ⟨n, hn, hm⟩ := hrel
    obtain ⟨c0, c1, c2, c3⟩ := hm.cells
    have HM := Lib.hid hm
    have HN := Lib.hid (nextOf_eq hm)
    clear hm h
    by_cases hlt : n < i
    · have hni' : (n : Int) < i := by omega
      have hsz : (n : Int) ≤ s.size := by omega
      by_cases hg : n + 4 ≤ s.size
      · obtain ⟨F', ⟨es, cl, V, hI⟩, hF'⟩ := HM.out.win
        obtain ⟨k, hk⟩ : ∃ k, k = s.extract n (n + 4) := ⟨_, rfl⟩
        have hks : k.size ≤ maxLen := by rw [hk]; unfold maxLen; simp; omega
        have hgk : grp s.data.toList n = some k.data.toList := by rw [hk]; exact grp_ex s n hg
        have hlk := fun (w' : World) (hw' : w'.heap[m]? = wr.heap[m]?) => hI.look (Pr := Tryz.prog) (kt := 9) (t := 103) Tryz.underlying9 Tryz.underlying103 zero_ints k hks hw'
        have hk1 := hlk wr.drew rfl
        have hk2 := hlk ((wr.alloc (.cells #[.int .i64 (n : Int)] 3)).drew) (Below.heap_alloc wr _ m (hI.lt m hI.own))
        have hk3 := hlk ((wr.drew.alloc (.cells #[.int .i64 (n : Int)] 3))) (Below.heap_alloc wr.drew _ m (hI.lt m hI.own))
        have ha := (hI.held (((Held.refl wr).alloc (.cells #[.int .i64 (n : Int)] 3)).drew)).add (Pr := Tryz.prog) (kt := 9) (mt := 103) (t := 58) (ty := 58) Tryz.underlying9 Tryz.underlying103 Tryz.underlying58 info_int k hks n (ad := ⟨wr.heap.size, 0, none⟩) (c := 1) (by simp) (by have := pos_len s.data.toList k.data.toList n; omega)
        obtain ⟨v', w2, w3, F3, hr2, hr3, hw3, hF3, hkp2, hkp3⟩ := ha
        have hw1 : Held wr (wr.alloc (.cells #[.int .i64 (n : Int)] 3)).drew := ((Held.refl wr).alloc _).drew
        have hFb : ¬ F' wb := fun hb => by rcases hF' wb hb with h1 | h1; exact hF h1; omega
        have p1 := hw1.cell c1
        have p2 := hw1.cell c2
        have q1 := hkp2.cell p1 hFb
        have q2 := hkp2.cell p2 hFb
        have t1 := hkp3.cell p1 hFb
        have t2 := hkp3.cell p2 hFb
        have HG := Lib.hid (group_key wb s k n wr c0 hs hg hk)
        have HP := Lib.hid hw3
        have HK := Lib.hid hgk
        have HI := Lib.hid hI
        clear hlk hk hw3 hgk hks hI
        go_wp2_with (go_at_call 99; refine HG.out.mono ?_; rintro e w' ⟨rfl, rfl⟩)
        go_region_held3 (fun w' => w'.cell? ⟨wb, 1, none⟩ = some (.map (some m)) ∧ w'.cell? ⟨wb, 2, none⟩ = some (.int .i64 (n : Int))) (first | exact ⟨c1, c2⟩ | exact ⟨p1, p2⟩ | exact ⟨q1, q2⟩ | exact ⟨t1, t2⟩) (refine By.step_run (by rfl) _ _ _ _ 58 (by rfl) (by rfl) (by rfl) (by rfl) hr2 ?_)
        all_goals
          have HX := Lib.hid ((HM.out.step hF hwb (F' := F') (G := F3) hF' ((Win.Kept.of_held hw1).trans hkp3 (fun _ h => .inl h)) HP.out (fun b hb => by
            rcases hF3 b hb with h1 | h1
            · exact hF' b h1
            · exact .inr (Nat.le_trans HM.out.kept.size (Nat.le_trans hw1.le h1)))).congr (fun g => up_mid HK.out g))
          clear hk1 hk2 hk3 hr2 hr3 hkp2 hkp3 hF3 hw1 p1 p2 q1 q2 t1 t2 HG HP HK HI hF' hFb c0 c1 c2 c3
          obtain ⟨wX, hwX⟩ : ∃ x, x = w3 := ⟨_, rfl⟩
          rw [← hwX] at HX ⊢
          clear hwX
          obtain ⟨c0, c1, c2, c3⟩ := HX.out.cells
          by_cases h255 : n < 255
          · have HG := Lib.hid (group_none wb s ((n : Int) - 255) wX c0 hs (by omega) (by omega) (by omega))
            go_wp2_with (go_at_call 99; refine HG.out.mono ?_; rintro e w' ⟨rfl, rfl⟩)
            go_roundw
            case rel => exact ⟨n + 1, by omega, (HX.out.congr (fun g => mid_new _ g n h255)).next hF hwb⟩
            case measure =>
              have := nextOf_eq (HX.out.next hF hwb)
              rw [this, HN.out]; omega
          · obtain ⟨k1, hk1⟩ : ∃ k, k = s.extract (n - 255) (n - 255 + 4) := ⟨_, rfl⟩
            have hks1 : k1.size ≤ maxLen := by rw [hk1]; unfold maxLen; simp; omega
            have hgk1 : grp s.data.toList (n - 255) = some k1.data.toList := by rw [hk1]; exact grp_ex s _ (by omega)
            have HG := Lib.hid (group_key' wb s k1 ((n : Int) - 255) (n - 255) wX c0 hs (by omega) (by omega) hk1)
            obtain ⟨F1, ⟨es1, cl1, V1, hI1⟩, hF1⟩ := HX.out.win
            have hF1b : ¬ F1 wb := fun hb => by rcases hF1 wb hb with h1 | h1; exact hF h1; omega
            have hP1 : mid s.data.toList k1.data.toList n = (n - 255) :: pos s.data.toList k1.data.toList (n + 1) := by
              rw [mid_old s.data.toList k1.data.toList n (by omega), if_pos hgk1]; rfl
            have hlk := hI1.look (Pr := Tryz.prog) (kt := 9) (t := 103) Tryz.underlying9 Tryz.underlying103 zero_ints k1 hks1 (w' := wX) rfl
            by_cases hz : pos s.data.toList k1.data.toList (n + 1) = []
            · obtain ⟨w4, hr4, hw4, hkp4⟩ := hI1.drop (Pr := Tryz.prog) (kt := 9) (mt := 103) (t := 58) (ty := 0) Tryz.underlying9 Tryz.underlying103 k1 hks1
              obtain ⟨b, off, cap, hv⟩ : ∃ b off cap, Win.val V1 k1 = .slice (some ⟨b, off, none⟩) 1 cap := by
                rcases hI1.val_is k1 with ⟨_, h2, _⟩ | ⟨b, _, _, _, off, cap, cells, h3, _⟩
                · rw [hP1, hz] at h2; cases h2
                · rw [hP1, hz] at h3; exact ⟨b, off, cap, h3⟩
              rw [hv] at hlk
              have HW4 := Lib.hid ((HX.out.step hF hwb hF1 hkp4 hw4 hF1).congr (Q := fun g => pos s.data.toList g (n + 1)) (fun g => by have := up_old (s := s.data.toList) (by omega) hgk1 g; rw [hz] at this; exact this))
              clear hz hP1 hI1 hw4 hkp4 hk1 hgk1 hks1 hv hF1 hF1b
              go_wp2_with (first | (go_at_call 99; refine HG.out.mono ?_; rintro e w' ⟨rfl, rfl⟩) | (refine By.list_delete rfl _ _ _ _ 0 rfl rfl rfl rfl hr4 ?_; obtain ⟨d0, d1, d2, d3⟩ := HW4.out.cells))
              go_roundw
              case rel => exact ⟨n + 1, by omega, HW4.out.next hF hwb⟩
              case measure =>
                have := nextOf_eq (HW4.out.next hF hwb)
                rw [this, HN.out]; omega
            · obtain ⟨b, off, cap, w4, F4, hv, hc1, hc2, hr4, hw4, hF4, hkp4⟩ := (hI1.held (Held.refl wX).drew).tail (Pr := Tryz.prog) (kt := 9) (mt := 103) (t := 58) Tryz.underlying9 Tryz.underlying103 k1 hks1 _ _ hP1 hz
              rw [hv] at hlk
              have hkp5 : Win.Kept F1 wX w4 := (Win.Kept.of_held (Held.refl wX).drew).trans hkp4 (fun _ h => .inl h)
              have HW4 := Lib.hid ((HX.out.step hF hwb hF1 hkp5 hw4 (fun b hb => hF1 b (hF4 b hb))).congr (Q := fun g => pos s.data.toList g (n + 1)) (fun g => up_old (s := s.data.toList) (by omega) hgk1 g))
              obtain ⟨d0, d1, d2, d3⟩ := HW4.out.cells
              have hl1 := List.length_pos_iff.2 hz
              have hl2 := pos_len s.data.toList k1.data.toList (n + 1)
              generalize (pos s.data.toList k1.data.toList (n + 1)).length = len at hlk hl1 hl2 hc1 hr4
              have hc3 : (len : Int) + 1 ≤ cap := by omega
              have hc4 : ¬ cap = 1 := by omega
              have hc5 : (1 : Int) ≤ cap := by omega
              have hc6 : (1 : Int) ≤ (len : Int) + 1 := by omega
              have hc7 : (1 : Int) < (len : Int) + 1 := by omega
              clear hz hP1 hI1 hw4 hkp4 hkp5 hk1 hgk1 hks1 hv hF1 hF1b hF4
              go_wp2_with (go_at_call 99; refine HG.out.mono ?_; rintro e w' ⟨rfl, rfl⟩)
              go_region_held3 (fun w' => w'.cell? ⟨wb, 1, none⟩ = some (.map (some m))) (first | exact c1 | exact d1) (fail)
              all_goals
                go_wp2
                go_roundw
                case rel => exact ⟨n + 1, by omega, HW4.out.next hF hwb⟩
                case measure =>
                  have := nextOf_eq (HW4.out.next hF hwb)
                  rw [this, HN.out]; omega
      · have hgn := grp_no s n (by omega)
        have HX := Lib.hid (HM.out.congr (fun g => none_mid hgn g))
        have HG := Lib.hid (group_none wb s n wr c0 hs (by omega) (by omega) (by omega))
        clear hgn hg
        go_wp2_with fail
        refine HG.out.mono ?_
        rintro e w' ⟨rfl, rfl⟩
        clear HG c0 c1 c2 c3
        obtain ⟨wX, hwX⟩ : ∃ x, x = wr := ⟨_, rfl⟩
        rw [← hwX] at HX ⊢
        clear hwX
        obtain ⟨c0, c1, c2, c3⟩ := HX.out.cells
        by_cases h255 : n < 255
        · have HG := Lib.hid (group_none wb s ((n : Int) - 255) wX c0 hs (by omega) (by omega) (by omega))
          go_wp2_with (go_at_call 99; refine HG.out.mono ?_; rintro e w' ⟨rfl, rfl⟩)
          go_roundw
          case rel => exact ⟨n + 1, by omega, (HX.out.congr (fun g => mid_new _ g n h255)).next hF hwb⟩
          case measure =>
            have := nextOf_eq (HX.out.next hF hwb)
            rw [this, HN.out]; omega
        · obtain ⟨k1, hk1⟩ : ∃ k, k = s.extract (n - 255) (n - 255 + 4) := ⟨_, rfl⟩
          have hks1 : k1.size ≤ maxLen := by rw [hk1]; unfold maxLen; simp; omega
          have hgk1 : grp s.data.toList (n - 255) = some k1.data.toList := by rw [hk1]; exact grp_ex s _ (by omega)
          have HG := Lib.hid (group_key' wb s k1 ((n : Int) - 255) (n - 255) wX c0 hs (by omega) (by omega) hk1)
          obtain ⟨F1, ⟨es1, cl1, V1, hI1⟩, hF1⟩ := HX.out.win
          have hF1b : ¬ F1 wb := fun hb => by rcases hF1 wb hb with h1 | h1; exact hF h1; omega
          have hP1 : mid s.data.toList k1.data.toList n = (n - 255) :: pos s.data.toList k1.data.toList (n + 1) := by
            rw [mid_old s.data.toList k1.data.toList n (by omega), if_pos hgk1]; rfl
          have hlk := hI1.look (Pr := Tryz.prog) (kt := 9) (t := 103) Tryz.underlying9 Tryz.underlying103 zero_ints k1 hks1 (w' := wX) rfl
          by_cases hz : pos s.data.toList k1.data.toList (n + 1) = []
          · obtain ⟨w4, hr4, hw4, hkp4⟩ := hI1.drop (Pr := Tryz.prog) (kt := 9) (mt := 103) (t := 58) (ty := 0) Tryz.underlying9 Tryz.underlying103 k1 hks1
            obtain ⟨b, off, cap, hv⟩ : ∃ b off cap, Win.val V1 k1 = .slice (some ⟨b, off, none⟩) 1 cap := by
              rcases hI1.val_is k1 with ⟨_, h2, _⟩ | ⟨b, _, _, _, off, cap, cells, h3, _⟩
              · rw [hP1, hz] at h2; cases h2
              · rw [hP1, hz] at h3; exact ⟨b, off, cap, h3⟩
            rw [hv] at hlk
            have HW4 := Lib.hid ((HX.out.step hF hwb hF1 hkp4 hw4 hF1).congr (Q := fun g => pos s.data.toList g (n + 1)) (fun g => by have := up_old (s := s.data.toList) (by omega) hgk1 g; rw [hz] at this; exact this))
            clear hz hP1 hI1 hw4 hkp4 hk1 hgk1 hks1 hv hF1 hF1b
            go_wp2_with (first | (go_at_call 99; refine HG.out.mono ?_; rintro e w' ⟨rfl, rfl⟩) | (refine By.list_delete rfl _ _ _ _ 0 rfl rfl rfl rfl hr4 ?_; obtain ⟨d0, d1, d2, d3⟩ := HW4.out.cells))
            go_roundw
            case rel => exact ⟨n + 1, by omega, HW4.out.next hF hwb⟩
            case measure =>
              have := nextOf_eq (HW4.out.next hF hwb)
              rw [this, HN.out]; omega
          · obtain ⟨b, off, cap, w4, F4, hv, hc1, hc2, hr4, hw4, hF4, hkp4⟩ := (hI1.held (Held.refl wX).drew).tail (Pr := Tryz.prog) (kt := 9) (mt := 103) (t := 58) Tryz.underlying9 Tryz.underlying103 k1 hks1 _ _ hP1 hz
            rw [hv] at hlk
            have hkp5 : Win.Kept F1 wX w4 := (Win.Kept.of_held (Held.refl wX).drew).trans hkp4 (fun _ h => .inl h)
            have HW4 := Lib.hid ((HX.out.step hF hwb hF1 hkp5 hw4 (fun b hb => hF1 b (hF4 b hb))).congr (Q := fun g => pos s.data.toList g (n + 1)) (fun g => up_old (s := s.data.toList) (by omega) hgk1 g))
            obtain ⟨d0, d1, d2, d3⟩ := HW4.out.cells
            have hl1 := List.length_pos_iff.2 hz
            have hl2 := pos_len s.data.toList k1.data.toList (n + 1)
            generalize (pos s.data.toList k1.data.toList (n + 1)).length = len at hlk hl1 hl2 hc1 hr4
            have hc3 : (len : Int) + 1 ≤ cap := by omega
            have hc4 : ¬ cap = 1 := by omega
            have hc5 : (1 : Int) ≤ cap := by omega
            have hc6 : (1 : Int) ≤ (len : Int) + 1 := by omega
            have hc7 : (1 : Int) < (len : Int) + 1 := by omega
            clear hz hP1 hI1 hw4 hkp4 hkp5 hk1 hgk1 hks1 hv hF1 hF1b hF4
            go_wp2_with (go_at_call 99; refine HG.out.mono ?_; rintro e w' ⟨rfl, rfl⟩)
            go_region_held3 (fun w' => w'.cell? ⟨wb, 1, none⟩ = some (.map (some m))) (first | exact c1 | exact d1) (fail)
            all_goals
              go_wp2
              go_roundw
              case rel => exact ⟨n + 1, by omega, HW4.out.next hF hwb⟩
              case measure =>
                have := nextOf_eq (HW4.out.next hF hwb)
                rw [this, HN.out]; omega
    · have hni : n = i := by omega
      subst hni
      go_wp2
      go_end0
      exact ⟨rfl, HM.out⟩
end Cp
end Go.Proofs.YthpjbffhdaaibaaGreat

set_option linter.unusedVariables false
set_option maxRecDepth 100000
namespace Go.Proofs.YthpjbffhdaaibaaGreat
open Go.RowKit
open By
namespace Cp
theorem more' (s : ByteArray) (i j m : Nat) (hj : j < i) (h : i + m < s.size) (hm : m ≤ lcp (s.data.toList.drop i) (s.data.toList.drop j)) :
    m < lcp (s.data.toList.drop i) (s.data.toList.drop j) ↔ s[i + m] = s[j + m] := by
  rw [lcp_next hm, at_drop s i m h, at_drop s j m (by omega)]
  constructor
  · rintro ⟨c, h1, h2⟩; injection h1 with h1; injection h2 with h2; rw [h1, h2]
  · intro e; exact ⟨_, rfl, by rw [e]⟩
theorem mem_pos {s g : List UInt8} {i j : Nat} (h : j ∈ pos s g i) : j < i ∧ i - 255 ≤ j ∧ grp s j = some g := by
  unfold pos occ at h
  rw [List.mem_filter, List.mem_range'] at h
  obtain ⟨⟨k, hk, rfl⟩, h2⟩ := h
  exact ⟨by omega, by omega, by simpa using h2⟩
theorem fold_at {s : List UInt8} {i p : Nat} {xs : List Nat} (h : p < xs.length) : among s i (xs.drop p) = step s i xs[p] (among s i (xs.drop (p + 1))) := by
  rw [List.drop_eq_getElem_cons h]; rfl
theorem fold_full {s : List UInt8} {i q : Nat} {xs : List Nat} (h : min 67 (s.length - i) ≤ (among s i (xs.drop q)).2) : among s i xs = among s i (xs.drop q) := by
  conv => lhs; rw [← List.take_append_drop q xs, among_append]
  exact among_full _ h _
theorem mlen_at {s : List UInt8} {i j r lim : Nat} (hj : j < i) (hlim : lim = min 67 (s.length - i)) (h1 : r ≤ lim) (h2 : r ≤ lcp (s.drop i) (s.drop j)) (h3 : r = lim ∨ ¬ r < lcp (s.drop i) (s.drop j)) : mlen s i (i - j) = r := by
  unfold mlen
  rw [show i - (i - j) = j by omega]
  have := lcp_le (s.drop i) (s.drop j)
  rw [List.length_drop] at this
  omega
set_option maxHeartbeats 4000000 in
theorem match_any (wb m : Nat) (s : ByteArray) (F : Nat → Prop) (w0 w : World) (i : Nat) (hs : (s.size : Int) ≤ 1099511627776) (hi : i ≤ s.size) (h : Mv wb m s F w0 i (fun g => pos s.data.toList g i) w) :
    Calls Tryz.prog 69 #[.pointer (some ⟨wb, 0, none⟩), .int .i64 i] w fun e w' => e = .returned (.tuple #[.int .i64 (mat s.data.toList i).1, .int .i64 (mat s.data.toList i).2]) ∧ Held w w' := by
  obtain ⟨c0, c1, c2, c3⟩ := h.cells
  by_cases hg : i + 4 ≤ s.size
  · obtain ⟨F', ⟨es, cl, V, hI⟩, hF'⟩ := h.win
    obtain ⟨k, hk⟩ : ∃ k, k = s.extract i (i + 4) := ⟨_, rfl⟩
    have hks : k.size ≤ maxLen := by rw [hk]; unfold maxLen; simp; omega
    have hgk : grp s.data.toList i = some k.data.toList := by rw [hk]; exact grp_ex s i hg
    have HG := Lib.hid (group_key wb s k i w c0 hs hg hk)
    have hlk := hI.look (Pr := Tryz.prog) (kt := 9) (t := 103) Tryz.underlying9 Tryz.underlying103 zero_ints k hks (w' := w) rfl
    obtain ⟨xs, hxs⟩ : ∃ xs, xs = pos s.data.toList k.data.toList i := ⟨_, rfl⟩
    obtain ⟨A, cap, hv, hcap, hcell⟩ : ∃ A cap, Win.val V k = .slice A xs.length cap ∧ xs.length ≤ cap ∧ ∀ p (h : p < xs.length), ∃ b off, A = some ⟨b, off, none⟩ ∧ w.cell? ⟨b, off + p, none⟩ = some (.int .i64 (xs[p] : Int)) := by
      subst hxs
      rcases hI.val_is k with ⟨h1, h2, _⟩ | ⟨b, _, _, _, off, cap, cells, h3, h4, h5, _, _, h8⟩
      · refine ⟨none, 0, by rw [h1, h2]; rfl, by rw [h2]; simp, fun p hp => ?_⟩
        rw [h2] at hp; simp at hp
      · exact ⟨_, cap, h3, h5, fun p hp => ⟨b, off, rfl, by simp only [World.cell?, h4]; exact h8 p hp⟩⟩
    rw [hv] at hlk
    have HA : Hid (among s.data.toList i xs = mat s.data.toList i) := by rw [hxs]; exact among_pos hgk
    have HX : Hid (∀ p (h : p < xs.length), xs[p] < i ∧ 4 ≤ lcp (s.data.toList.drop i) (s.data.toList.drop xs[p])) := by
      intro p hp
      have h1 := mem_pos (s := s.data.toList) (g := k.data.toList) (i := i) (j := xs[p]) (by rw [← hxs]; exact List.getElem_mem hp)
      exact ⟨h1.1, (grp_iff (by rw [size_len]; exact hg) (by omega)).1 (by rw [h1.2.2, hgk])⟩
    have hxl : xs.length ≤ 255 := by rw [hxs]; exact pos_len _ _ _
    have HC := Lib.hid hcell
    clear hcell hxs hgk hk hv hI hF' hks h
    have hsi : (i : Int) + 4 ≤ s.size := by omega
    obtain ⟨lim, hlim⟩ : ∃ lim : Nat, lim = min 67 (s.data.toList.length - i) := ⟨_, rfl⟩
    have HL := Lib.hid hlim
    rw [size_len] at hlim
    have hl4 : 4 ≤ lim ∧ lim ≤ 67 ∧ i + lim ≤ s.size := by omega
    have hmin : Value.int .i64 (min (67 : Int) ((s.size : Int) - i)) = .int .i64 lim := by congr 1; omega
    by_cases h67 : (s.size : Int) - i < 67
    · have hl2 : (s.size : Int) - i = lim := by omega
      clear hlim hmin
      go_enter Tryz.func69, Tryz.ntmps69
      go_wp2_with (go_at_call 99; refine HG.out.mono ?_; rintro e w' ⟨rfl, rfl⟩)
      clear hl2 h67
      go_loopw [9, 10, 12] (fun d n k wr => ∃ (q : Nat) (z : Int), q ≤ xs.length ∧ k = .int .i64 z ∧ z = (q : Int) - 1 ∧ d = .int .i64 (among s.data.toList i (xs.drop q)).1 ∧ n = .int .i64 (among s.data.toList i (xs.drop q)).2 ∧ Held w wr) (fun _ _ k _ => (intOf k + 1).toNat)
      case atStart => exact ⟨xs.length, _, Nat.le_refl _, rfl, rfl, by simp [among], by simp [among], Held.refl _⟩
      case round =>
        obtain ⟨q, z, hq, rfl, hz, rfl, rfl, hk⟩ := hrel
        have HK := Lib.hid hk
        have f0 := hk.cell c0
        have f1 := hk.cell c1
        clear hk
        by_cases h0 : q = 0
        · subst h0
          obtain rfl : z = -1 := by omega
          have HA' : Hid (among s.data.toList i (xs.drop 0) = mat s.data.toList i) := HA.out
          generalize among s.data.toList i (xs.drop 0) = dn at HA'
          clear hz
          go_wp2
          go_ret2
          exact ⟨by rw [← HA'.out]; rfl, HK.out⟩
        · obtain ⟨p, rfl⟩ : ∃ p, q = p + 1 := ⟨q - 1, by omega⟩
          obtain rfl : z = p := by omega
          clear hz h0
          obtain ⟨⟨d, n⟩, hdn⟩ : ∃ dn, among s.data.toList i (xs.drop (p + 1)) = dn := ⟨_, rfl⟩
          have HD := Lib.hid hdn
          rw [hdn]
          clear hdn
          by_cases hfull : (lim : Int) ≤ n
          · have HF : Hid (mat s.data.toList i = (d, n)) := by
              show _ = _
              rw [← HA.out, fold_full (q := p + 1) (by rw [HD.out, ← HL.out]; show lim ≤ n; omega), HD.out]
            go_wp2
            go_ret2
            exact ⟨by rw [HF.out]; rfl, HK.out⟩
          · have hfull' : (n : Int) < lim := by omega
            obtain ⟨b, off, hA, hcj⟩ := HC.out p (by omega)
            subst hA
            obtain ⟨J, hJ⟩ : ∃ J, J = xs[p]'(by omega) := ⟨_, rfl⟩
            rw [← hJ] at hcj
            have hJx := HX.out p (by omega)
            rw [← hJ] at hJx
            obtain ⟨hJi, hJ4⟩ := hJx
            have HJ := Lib.hid hJ
            clear hJ
            have HJ4 := Lib.hid hJ4
            clear hJ4
            have f2 := HK.out.cell hcj
            have HF := Lib.hid (And.intro f0 (And.intro f1 f2))
            clear hcj hfull f0 f1 f2
            have hp1 : (p : Int) < xs.length := by omega
            go_wp2
            obtain ⟨wA, hwA⟩ : ∃ wA : World, wA = wr := ⟨_, rfl⟩
            rw [← hwA] at HK HF ⊢
            clear hwA
            go_loopw [13] (fun v wr => ∃ r : Nat, 4 ≤ r ∧ r ≤ lim ∧ r ≤ lcp (s.data.toList.drop i) (s.data.toList.drop J) ∧ v = .int .i64 r ∧ Held wA wr) (fun v _ => lim - (intOf v).toNat)
            case atStart => exact ⟨4, by omega, by omega, HJ4.out, rfl, Held.refl _⟩
            case round =>
              obtain ⟨r, hr4, hrl, hrc, rfl, hkk⟩ := hrel
              have HR := Lib.hid hrc
              have HKK := Lib.hid (HK.out.step hkk)
              have f0 := hkk.cell HF.out.1
              have f1 := hkk.cell HF.out.2.1
              have f2 := hkk.cell HF.out.2.2
              have HH := Lib.hid hkk
              clear hrc hkk
              by_cases ha : (r : Int) < lim
              · have e1 : IntKind.i64.wrap ((i : Int) + r) = (i : Int) + r := IntWalk.i64_in _ (by omega)
                have e2 : IntKind.i64.wrap ((J : Int) + r) = (J : Int) + r := IntWalk.i64_in _ (by omega)
                have e4 := idx s ((i : Int) + r) (i + r) (by omega) (by omega)
                have e5 := idx s ((J : Int) + r) (J + r) (by omega) (by omega)
                have e6 : (0 : Int) ≤ p := by omega
                have hm := more' s i J r hJi (by omega) HR.out
                by_cases hc : s[i + r]'(by omega) = s[J + r]'(by omega)
                · have HN := Lib.hid (hm.2 hc)
                  rw [← hc] at e5
                  clear hm hc
                  generalize (s[i + r]'(by omega)).toNat = x at e4 e5
                  go_wp2
                  go_quiet (fail)
                  go_wp2
                  go_roundw
                  case rel => exact ⟨r + 1, by omega, by omega, HN.out, by go_num, HH.out.drewN _⟩
                  case measure => (simp [intOf]) <;> omega
                · have HN : Hid (mlen s.data.toList i (i - J) = r) := mlen_at hJi HL.out hrl HR.out (.inr fun h => hc (hm.1 h))
                  have hne : ¬ (s[i + r]'(by omega)).toNat = (s[J + r]'(by omega)).toNat := fun h => hc (UInt8.toNat_inj.1 h)
                  clear hm hc
                  generalize (s[i + r]'(by omega)).toNat = x at e4 hne
                  generalize (s[J + r]'(by omega)).toNat = y at e5 hne
                  have hne' : ((x : Int) == (y : Int)) = false := by simp; omega
                  clear hne
                  go_wp2
                  go_quiet (fail)
                  by_cases hbig : n < r
                  · have HS : Hid (among s.data.toList i (xs.drop p) = (i - J, r)) := by
                      rw [fold_at (by omega), HD.out, ← HJ.out]; unfold step; rw [HN.out]; exact if_pos hbig
                    go_wp2
                    go_roundw
                    case rel => exact ⟨p, _, by omega, rfl, rfl, by (rw [HS.out]) <;> go_num, by (rw [HS.out]) <;> rfl, HKK.out.drewN _⟩
                    case measure => (simp [intOf]) <;> omega
                  · have HS : Hid (among s.data.toList i (xs.drop p) = (d, n)) := by
                      rw [fold_at (by omega), HD.out, ← HJ.out]; unfold step; rw [HN.out]; exact if_neg hbig
                    go_wp2
                    go_roundw
                    case rel => exact ⟨p, _, by omega, rfl, rfl, by (rw [HS.out]) <;> rfl, by (rw [HS.out]) <;> rfl, HKK.out.drewN _⟩
                    case measure => (simp [intOf]) <;> omega
              · have HN : Hid (mlen s.data.toList i (i - J) = r) := mlen_at hJi HL.out hrl HR.out (.inl (by omega))
                have ha' : decide ((r : Int) < lim) = false := by simpa using ha
                have ha2 : decide (r < lim) = false := by simp; omega
                go_wp2
                go_quiet (fail)
                by_cases hbig : n < r
                · have HS : Hid (among s.data.toList i (xs.drop p) = (i - J, r)) := by
                    rw [fold_at (by omega), HD.out, ← HJ.out]; unfold step; rw [HN.out]; exact if_pos hbig
                  go_wp2
                  go_roundw
                  case rel => exact ⟨p, _, by omega, rfl, rfl, by (rw [HS.out]) <;> go_num, by (rw [HS.out]) <;> rfl, HKK.out.drewN _⟩
                  case measure => (simp [intOf]) <;> omega
                · have HS : Hid (among s.data.toList i (xs.drop p) = (d, n)) := by
                    rw [fold_at (by omega), HD.out, ← HJ.out]; unfold step; rw [HN.out]; exact if_neg hbig
                  go_wp2
                  go_roundw
                  case rel => exact ⟨p, _, by omega, rfl, rfl, by (rw [HS.out]) <;> rfl, by (rw [HS.out]) <;> rfl, HKK.out.drewN _⟩
                  case measure => (simp [intOf]) <;> omega
    · obtain rfl : lim = 67 := by omega
      have hl2 : True := trivial
      clear hlim hmin
      go_enter Tryz.func69, Tryz.ntmps69
      go_wp2_with (go_at_call 99; refine HG.out.mono ?_; rintro e w' ⟨rfl, rfl⟩)
      clear hl2 h67
      go_loopw [9, 10, 12] (fun d n k wr => ∃ (q : Nat) (z : Int), q ≤ xs.length ∧ k = .int .i64 z ∧ z = (q : Int) - 1 ∧ d = .int .i64 (among s.data.toList i (xs.drop q)).1 ∧ n = .int .i64 (among s.data.toList i (xs.drop q)).2 ∧ Held w wr) (fun _ _ k _ => (intOf k + 1).toNat)
      case atStart => exact ⟨xs.length, _, Nat.le_refl _, rfl, rfl, by simp [among], by simp [among], Held.refl _⟩
      case round =>
        obtain ⟨q, z, hq, rfl, hz, rfl, rfl, hk⟩ := hrel
        have HK := Lib.hid hk
        have f0 := hk.cell c0
        have f1 := hk.cell c1
        clear hk
        by_cases h0 : q = 0
        · subst h0
          obtain rfl : z = -1 := by omega
          have HA' : Hid (among s.data.toList i (xs.drop 0) = mat s.data.toList i) := HA.out
          generalize among s.data.toList i (xs.drop 0) = dn at HA'
          clear hz
          go_wp2
          go_ret2
          exact ⟨by rw [← HA'.out]; rfl, HK.out⟩
        · obtain ⟨p, rfl⟩ : ∃ p, q = p + 1 := ⟨q - 1, by omega⟩
          obtain rfl : z = p := by omega
          clear hz h0
          obtain ⟨⟨d, n⟩, hdn⟩ : ∃ dn, among s.data.toList i (xs.drop (p + 1)) = dn := ⟨_, rfl⟩
          have HD := Lib.hid hdn
          rw [hdn]
          clear hdn
          by_cases hfull : (67 : Int) ≤ n
          · have HF : Hid (mat s.data.toList i = (d, n)) := by
              show _ = _
              rw [← HA.out, fold_full (q := p + 1) (by rw [HD.out, ← HL.out]; show 67 ≤ n; omega), HD.out]
            go_wp2
            go_ret2
            exact ⟨by rw [HF.out]; rfl, HK.out⟩
          · have hfull' : (n : Int) < 67 := by omega
            obtain ⟨b, off, hA, hcj⟩ := HC.out p (by omega)
            subst hA
            obtain ⟨J, hJ⟩ : ∃ J, J = xs[p]'(by omega) := ⟨_, rfl⟩
            rw [← hJ] at hcj
            have hJx := HX.out p (by omega)
            rw [← hJ] at hJx
            obtain ⟨hJi, hJ4⟩ := hJx
            have HJ := Lib.hid hJ
            clear hJ
            have HJ4 := Lib.hid hJ4
            clear hJ4
            have f2 := HK.out.cell hcj
            have HF := Lib.hid (And.intro f0 (And.intro f1 f2))
            clear hcj hfull f0 f1 f2
            have hp1 : (p : Int) < xs.length := by omega
            go_wp2
            obtain ⟨wA, hwA⟩ : ∃ wA : World, wA = wr := ⟨_, rfl⟩
            rw [← hwA] at HK HF ⊢
            clear hwA
            go_loopw [13] (fun v wr => ∃ r : Nat, 4 ≤ r ∧ r ≤ 67 ∧ r ≤ lcp (s.data.toList.drop i) (s.data.toList.drop J) ∧ v = .int .i64 r ∧ Held wA wr) (fun v _ => 67 - (intOf v).toNat)
            case atStart => exact ⟨4, by omega, by omega, HJ4.out, rfl, Held.refl _⟩
            case round =>
              obtain ⟨r, hr4, hrl, hrc, rfl, hkk⟩ := hrel
              have HR := Lib.hid hrc
              have HKK := Lib.hid (HK.out.step hkk)
              have f0 := hkk.cell HF.out.1
              have f1 := hkk.cell HF.out.2.1
              have f2 := hkk.cell HF.out.2.2
              have HH := Lib.hid hkk
              clear hrc hkk
              by_cases ha : (r : Int) < 67
              · have e1 : IntKind.i64.wrap ((i : Int) + r) = (i : Int) + r := IntWalk.i64_in _ (by omega)
                have e2 : IntKind.i64.wrap ((J : Int) + r) = (J : Int) + r := IntWalk.i64_in _ (by omega)
                have e4 := idx s ((i : Int) + r) (i + r) (by omega) (by omega)
                have e5 := idx s ((J : Int) + r) (J + r) (by omega) (by omega)
                have e6 : (0 : Int) ≤ p := by omega
                have hm := more' s i J r hJi (by omega) HR.out
                by_cases hc : s[i + r]'(by omega) = s[J + r]'(by omega)
                · have HN := Lib.hid (hm.2 hc)
                  rw [← hc] at e5
                  clear hm hc
                  generalize (s[i + r]'(by omega)).toNat = x at e4 e5
                  go_wp2
                  go_quiet (fail)
                  go_wp2
                  go_roundw
                  case rel => exact ⟨r + 1, by omega, by omega, HN.out, by go_num, HH.out.drewN _⟩
                  case measure => (simp [intOf]) <;> omega
                · have HN : Hid (mlen s.data.toList i (i - J) = r) := mlen_at hJi HL.out hrl HR.out (.inr fun h => hc (hm.1 h))
                  have hne : ¬ (s[i + r]'(by omega)).toNat = (s[J + r]'(by omega)).toNat := fun h => hc (UInt8.toNat_inj.1 h)
                  clear hm hc
                  generalize (s[i + r]'(by omega)).toNat = x at e4 hne
                  generalize (s[J + r]'(by omega)).toNat = y at e5 hne
                  have hne' : ((x : Int) == (y : Int)) = false := by simp; omega
                  clear hne
                  go_wp2
                  go_quiet (fail)
                  by_cases hbig : n < r
                  · have HS : Hid (among s.data.toList i (xs.drop p) = (i - J, r)) := by
                      rw [fold_at (by omega), HD.out, ← HJ.out]; unfold step; rw [HN.out]; exact if_pos hbig
                    go_wp2
                    go_roundw
                    case rel => exact ⟨p, _, by omega, rfl, rfl, by (rw [HS.out]) <;> go_num, by (rw [HS.out]) <;> rfl, HKK.out.drewN _⟩
                    case measure => (simp [intOf]) <;> omega
                  · have HS : Hid (among s.data.toList i (xs.drop p) = (d, n)) := by
                      rw [fold_at (by omega), HD.out, ← HJ.out]; unfold step; rw [HN.out]; exact if_neg hbig
                    go_wp2
                    go_roundw
                    case rel => exact ⟨p, _, by omega, rfl, rfl, by (rw [HS.out]) <;> rfl, by (rw [HS.out]) <;> rfl, HKK.out.drewN _⟩
                    case measure => (simp [intOf]) <;> omega
              · have HN : Hid (mlen s.data.toList i (i - J) = r) := mlen_at hJi HL.out hrl HR.out (.inl (by omega))
                have ha' : decide ((r : Int) < 67) = false := by simpa using ha
                have ha2 : decide (r < 67) = false := by simp; omega
                go_wp2
                go_quiet (fail)
                by_cases hbig : n < r
                · have HS : Hid (among s.data.toList i (xs.drop p) = (i - J, r)) := by
                    rw [fold_at (by omega), HD.out, ← HJ.out]; unfold step; rw [HN.out]; exact if_pos hbig
                  go_wp2
                  go_roundw
                  case rel => exact ⟨p, _, by omega, rfl, rfl, by (rw [HS.out]) <;> go_num, by (rw [HS.out]) <;> rfl, HKK.out.drewN _⟩
                  case measure => (simp [intOf]) <;> omega
                · have HS : Hid (among s.data.toList i (xs.drop p) = (d, n)) := by
                    rw [fold_at (by omega), HD.out, ← HJ.out]; unfold step; rw [HN.out]; exact if_neg hbig
                  go_wp2
                  go_roundw
                  case rel => exact ⟨p, _, by omega, rfl, rfl, by (rw [HS.out]) <;> rfl, by (rw [HS.out]) <;> rfl, HKK.out.drewN _⟩
                  case measure => (simp [intOf]) <;> omega
  · have HM : Hid (mat s.data.toList i = (0, 0)) := mat_none (grp_no s i (by omega))
    have HG := Lib.hid (group_none wb s i w c0 hs (by omega) (by omega) (by omega))
    clear hg h
    go_enter Tryz.func69, Tryz.ntmps69
    go_wp2_with (go_at_call 99; refine HG.out.mono ?_; rintro e w' ⟨rfl, rfl⟩)
    go_ret2
    exact ⟨by rw [HM.out]; rfl, Held.refl _⟩
end Cp
end Go.Proofs.YthpjbffhdaaibaaGreat

set_option linter.unusedVariables false
set_option maxRecDepth 100000
namespace Go.Proofs.YthpjbffhdaaibaaGreat
open Go.RowKit
open By
namespace Cp
theorem lits_len : ∀ (n : Nat) (l : List UInt8), l.length ≤ n → (lits l).length = l.length + (l.length + 127) / 128
  | 0, [], _ => rfl
  | 0, _ :: _, h => by simp at h
  | n + 1, l, h => by
    by_cases h0 : l.length = 0
    · rw [List.eq_nil_of_length_eq_zero h0]; rfl
    · rw [lits_step (by omega), List.length_cons, List.length_append, lits_len n (l.drop (min 128 l.length)) (by rw [List.length_drop]; omega), List.length_take, List.length_drop]
      omega
theorem lits_le (l : List UInt8) : (lits l).length ≤ 2 * l.length := by
  rw [lits_len _ l (Nat.le_refl _)]
  by_cases h : l.length = 0
  · rw [h]; decide
  · omega
theorem own_block {w w' : World} {base : Nat} {e : TypeId} {size n : Nat} {v : Value} {xs : List Value} (h : w.ownsRow base e size v n xs) (hb : ∀ g, v.ownBlock = some g → w'.heap[g]? = w.heap[g]?) : w'.ownsRow base e size v n xs := by
  refine ⟨h.1, h.2.imp id ?_⟩
  rintro ⟨g, cap, cur, rfl, h1, h2, h3⟩
  exact ⟨g, cap, cur, rfl, h1, (hb g rfl).trans h2, h3⟩
/-- Compress on its way: the window at n, the bytes l in the slice o. -/
structure Cst (W : World) (wb m : Nat) (s : ByteArray) (n : Nat) (o : Value) (l : List UInt8) (w : World) : Prop where
  blk : w.heap[wb]? = some (.cells #[.string s, .map (some m), .int .i64 (n : Int)] 105 (0, 0))
  win : ∃ F, Win.Win 3 w m F (fun g => pos s.data.toList g n) ∧ ¬ F wb ∧ (∀ b, F b → W.heap.size ≤ b) ∧ ∀ g, o.ownBlock = some g → ¬ F g ∧ g ≠ wb
  own : w.ownsRow W.heap.size 5 1 o l.length (by8 l)
  hwb : W.heap.size ≤ wb
  held : Held W w
namespace Cst
variable {W w : World} {wb m n : Nat} {s : ByteArray} {o : Value} {l : List UInt8}
theorem lt (h : Cst W wb m s n o l w) : wb < w.heap.size := (Array.getElem?_eq_some_iff.1 h.blk).1
theorem own_lt (h : Cst W wb m s n o l w) : ∀ g, o.ownBlock = some g → g < w.heap.size := fun g hg => (World.ownsRow.lt h.own g hg).2
theorem moved {w' : World} {F : Nat → Prop} (h : Cst W wb m s n o l w) {i : Nat} (hF : ¬ F wb) (hB : ∀ b, F b → W.heap.size ≤ b) (ho : ∀ g, o.ownBlock = some g → ¬ F g ∧ g ≠ wb) (hm : Mv wb m s F w i (fun g => pos s.data.toList g i) w') : Cst W wb m s i o l w' := by
  obtain ⟨F', hw', hF'⟩ := hm.win
  have hle := h.held.le
  have hlt := h.lt
  refine ⟨hm.blk, ⟨F', hw', fun hb => ?_, fun b hb => ?_, fun g hg => ?_⟩, own_block h.own (fun g hg => hm.kept.block g (h.own_lt g hg) ?_), h.hwb, hm.kept.held h.held ?_⟩
  · rcases hF' wb hb with h1 | h1
    · exact hF h1
    · omega
  · rcases hF' b hb with h1 | h1
    · exact hB b h1
    · omega
  · refine ⟨fun hb => ?_, (ho g hg).2⟩
    rcases hF' g hb with h1 | h1
    · exact (ho g hg).1 h1
    · have := h.own_lt g hg; omega
  · rintro (h1 | h1)
    · exact (ho g hg).1 h1
    · exact (ho g hg).2 h1
  · rintro x (h1 | rfl)
    · exact hB x h1
    · exact h.hwb
theorem out {w' : World} {o' : Value} {l' : List UInt8} (h : Cst W wb m s n o l w) (hk : Win.Kept (fun x => some x = o.ownBlock) w w') (hm : Moved w o o') (hown : w'.ownsRow W.heap.size 5 1 o' l'.length (by8 l')) : Cst W wb m s n o' l' w' := by
  obtain ⟨F, ⟨es, c, V, hI⟩, hF, hB, ho⟩ := h.win
  have hlt := h.lt
  refine ⟨(hk.block wb h.lt (fun e => (ho wb e.symm).2 rfl)).trans h.blk, ⟨F, ⟨es, c, V, hI.kept hk (fun b hb e => (ho b e.symm).1 hb)⟩, hF, hB, fun g hg => ?_⟩, hown, h.hwb, hk.held h.held ?_⟩
  · rcases hm g hg with h1 | h1
    · exact ho g h1
    · refine ⟨fun hb => ?_, by omega⟩
      have := hI.lt g hb; omega
  · intro x hx
    exact (World.ownsRow.lt h.own x hx.symm).1
theorem keep {w' : World} (h : Cst W wb m s n o l w) (hk : Held w w') : Cst W wb m s n o l w' :=
  h.out (Win.Kept.of_held hk) (Moved.refl _ _) (own_block h.own (fun g hg => hk.block g (h.own_lt g hg)))
theorem mv (h : Cst W wb m s n o l w) (F : Nat → Prop) (hw : Win.Win 3 w m F (fun g => pos s.data.toList g n)) : Mv wb m s F w n (fun g => pos s.data.toList g n) w :=
  ⟨h.blk, ⟨F, hw, fun _ h => .inl h⟩, Win.Kept.refl _ _⟩
end Cst
theorem cst_start (W : World) (s : ByteArray) : Cst W (W.heap.size + 1) W.heap.size s 0 (.slice none 0 0) [] ((W.alloc (.map #[] 0)).alloc (.cells #[.string s, .map (some W.heap.size), .int .i64 0] 105)) := by
  have hw := Win.Win.made (e := 3) W
  obtain ⟨es, c, V, hI⟩ := hw
  refine ⟨?_, ⟨_, ⟨es, c, V, hI.held ((Held.refl _).alloc _)⟩, by simp, fun b hb => by subst hb; exact Nat.le_refl _, fun g hg => by cases hg⟩, World.ownsRow_nil _ _ _ _, Nat.le_succ _, ((Held.refl W).alloc _).alloc _⟩
  have := heap_alloc_new (W.alloc (.map #[] 0)) (.cells #[.string s, .map (some W.heap.size), .int .i64 0] 105)
  simpa using this
theorem cst_move {W w : World} {wb m n : Nat} {s : ByteArray} {o : Value} {l : List UInt8} (h : Cst W wb m s n o l w) (i : Nat) (hs : (s.size : Int) ≤ 1099511627776) (hi : i ≤ s.size) (h0 : n ≤ i) :
    Calls Tryz.prog 68 #[.pointer (some ⟨wb, 0, none⟩), .int .i64 i] w fun e w' => e = .returned (.tuple #[]) ∧ Cst W wb m s i o l w' := by
  obtain ⟨F, hw, hF, hB, ho⟩ := h.win
  exact (move_any wb m s F w n i hs hF hi (h.mv F hw) h0).mono fun e w' ⟨h1, h2⟩ => ⟨h1, h.moved hF hB ho h2⟩
theorem cst_match {W w : World} {wb m : Nat} {s : ByteArray} {o : Value} {l : List UInt8} {i : Nat} (h : Cst W wb m s i o l w) (hs : (s.size : Int) ≤ 1099511627776) (hi : i ≤ s.size) (d n : Nat) (hdn : mat s.data.toList i = (d, n)) :
    Calls Tryz.prog 69 #[.pointer (some ⟨wb, 0, none⟩), .int .i64 i] w fun e w' => e = .returned (.tuple #[.int .i64 d, .int .i64 n]) ∧ Cst W wb m s i o l w' := by
  obtain ⟨F, hw, hF, hB, ho⟩ := h.win
  refine (match_any wb m s F w w i hs hi (h.mv F hw)).mono fun e w' ⟨h1, h2⟩ => ⟨?_, h.keep h2⟩
  rw [h1, hdn]
theorem cst_lits {W w : World} {wb m n : Nat} {s t : ByteArray} {o : Value} {l : List UInt8} (h : Cst W wb m s n o l w) (ht : t.size ≤ 1099511627776) (hl : l.length ≤ 10995116277760) (L : List UInt8) (hL : L = l ++ lits t.data.toList) :
    Calls Tryz.prog 70 #[o, .string t] w fun e w' => ∃ o', e = .returned o' ∧ Cst W wb m s n o' L w' := by
  subst hL
  refine (lits_any o l t w W.heap.size h.own h.held.le ht hl).mono ?_
  rintro e w' ⟨v', rfl, h1, h2, h3⟩
  exact ⟨v', rfl, h.out h2 h3 h1⟩
theorem slice_take (s : ByteArray) (a b : Nat) : (s.extract a b).data.toList = (s.data.toList.drop a).take (b - a) := ex_list s a b
theorem slice_drop (s : ByteArray) (a : Nat) : (s.extract a s.size).data.toList = s.data.toList.drop a := by
  rw [ex_list, List.take_of_length_le (by rw [List.length_drop, size_len]; omega)]
theorem byte_len (n : Nat) (h : n ≤ 67) : (124 : Int) + n = ((UInt8.ofNat (124 + n)).toNat : Int) := by
  simp [UInt8.toNat_ofNat']; omega
theorem byte_dist (d : Nat) (h : d ≤ 255) : (d : Int) = ((UInt8.ofNat d).toNat : Int) := by
  simp [UInt8.toNat_ofNat']; omega
set_option maxHeartbeats 4000000 in
theorem compress_any (s : ByteArray) (W : World) (hs : s.size ≤ 1099511627776) :
    Calls Tryz.prog 38 #[.string s] W fun e w' => e = .returned (.string ⟨(compress s.data.toList).toArray⟩) ∧ Held W w' := by
  have hs' : (s.size : Int) ≤ 1099511627776 := by omega
  have hst := cst_start W s
  have hmm := @run_makeMap Tryz.prog
  go_enter Tryz.func38, Tryz.ntmps38
  go_wp2
  go_loopw [4, 5, 6] (fun o st i wr => ∃ (l : List UInt8) (a b c : Nat), st = .int .i64 a ∧ i = .int .i64 b ∧ a ≤ b ∧ c ≤ b ∧ b ≤ s.size ∧ l.length ≤ 2 * a ∧ l ++ comp s.data.toList b a = compress s.data.toList ∧ Cst W (W.heap.size + 1) W.heap.size s c o l wr) (fun _ _ i _ => s.size - (intOf i).toNat)
  case atStart => exact ⟨[], 0, 0, 0, rfl, rfl, Nat.le_refl _, Nat.le_refl _, Nat.zero_le _, Nat.zero_le _, rfl, hst⟩
  case round =>
    obtain ⟨l, a, b, c, rfl, rfl, hab, hcb, hbs, hll, hcomp, hcs⟩ := hrel
    have HC := Lib.hid hcs
    have HL := Lib.hid hcomp
    clear hcs hcomp hst
    by_cases hlt : (b : Int) < s.size
    · obtain ⟨⟨d, n⟩, hdn⟩ : ∃ dn, mat s.data.toList b = dn := ⟨_, rfl⟩
      have hsp := mat_spec s.data.toList b
      rw [hdn, size_len] at hsp
      have HD := Lib.hid hdn
      clear hdn
      go_wp2_with fail
      refine (cst_move HC.out b hs' hbs hcb).mono ?_
      rintro e w1 ⟨rfl, hc1⟩
      have HC1 := Lib.hid hc1
      clear hc1
      go_wp2_with fail
      refine (cst_match HC1.out hs' hbs d n HD.out).mono ?_
      rintro e w2 ⟨rfl, hc2⟩
      have HC2 := Lib.hid hc2
      clear hc2
      by_cases hn : n = 0
      · have HS := comp_skip (s := s.data.toList) (i := b) (st := a) (by rw [size_len]; omega) (by rw [HD.out]; exact hn)
        rw [HS] at HL
        clear HS
        subst hn
        go_wp2
        go_roundw
        case rel => exact ⟨l, a, b + 1, b, rfl, by go_num, by omega, by omega, by omega, hll, HL.out, HC2.out⟩
        case measure => (simp [intOf]) <;> omega
      · have hn4 : 4 ≤ n ∧ n ≤ 67 ∧ n ≤ s.size - b ∧ 1 ≤ d ∧ d ≤ 255 := by
          rcases hsp with h1 | h1
          · injection h1 with _ h1; exact absurd h1 hn
          · exact ⟨h1.1, h1.2.1, h1.2.2.1, h1.2.2.2.1, h1.2.2.2.2.1⟩
        have HS := comp_match (s := s.data.toList) (i := b) (st := a) (by rw [size_len]; omega) (by rw [HD.out]; exact hn)
        rw [HS, HD.out, ← slice_take] at HL
        clear HS hsp
        have hn' : ((n : Int) == 0) = false := by simp; omega
        have hnn : ¬ (n : Int) = 0 := by omega
        clear hn
        have hlits := lits_le (s.extract a b).data.toList
        rw [slice_take, List.length_take, List.length_drop, size_len, ← slice_take] at hlits
        go_wp2_with fail
        refine (cst_lits HC2.out (t := s.extract a b) (by simp; omega) (by omega) _ rfl).mono ?_
        rintro e w3 ⟨o3, rfl, hc3⟩
        have HC3 := Lib.hid hc3
        have hown3 := hc3.own
        have hb3 := hc3.held.le
        clear hc3
        have hL3 : (l ++ lits (s.extract a b).data.toList).length ≤ 2 * b := by rw [List.length_append]; omega
        generalize hM : l ++ lits (s.extract a b).data.toList = M at *
        have HM := Lib.hid hM
        clear hM
        go_wp2_with (at_builtin; refine app_u8M _ rfl _ _ rfl W.heap.size _ M [UInt8.ofNat (124 + n), UInt8.ofNat d] ⟨w3.heap.size, 0, none⟩ 2 2 rfl (hown3.alloc _) rfl rfl (two_cells _ _ _ _ _ (byte_len n (by omega)) (byte_dist d (by omega)) _) (by omega) (by simp; omega) ?_; intro o4 w4 hown4 hg4 hm4)
        go_roundw
        case rel =>
          have hk4 := grown_kept (Win.Kept.refl _ _) (Moved.refl _ _) hg4 hm4
          refine ⟨M ++ [UInt8.ofNat (124 + n), UInt8.ofNat d], b + n, b + n, b, by go_num, by go_num, Nat.le_refl _, by omega, by omega, by simp; omega, ?_, HC3.out.out hk4.1 hk4.2 hown4⟩
          rw [← HL.out, ← HM.out]; simp
        case measure => (simp [intOf]) <;> omega
    · have hbe : b = s.size := by omega
      subst hbe
      rw [comp_end (by rw [size_len]; exact Nat.le_refl _), ← slice_drop] at HL
      go_wp2_with fail
      refine (cst_lits HC.out (t := s.extract a s.size) (by simp; omega) (by omega) _ rfl).mono ?_
      rintro e w3 ⟨o3, rfl, hc3⟩
      have hcv := conv_own hc3.own
      rw [HL.out] at hcv
      have HH := Lib.hid hc3.held
      clear hc3
      go_wp2
      go_ret
      exact ⟨rfl, HH.out⟩
set_option maxHeartbeats 4000000 in
theorem compress_ref (s : ByteArray) (W : World) (hs : s.size ≤ 1099511627776) :
    Calls Tryz.prog 41 #[.string s] W fun e w' => e = .returned (.string ⟨(compress s.data.toList).toArray⟩) ∧ Held W w' := by
  have hs' : (s.size : Int) ≤ 1099511627776 := by omega
  go_enter Tryz.func41, Tryz.ntmps41
  go_wp2
  go_loopw [3, 4, 5] (fun o st i wr => ∃ (l : List UInt8) (a b : Nat), st = .int .i64 a ∧ i = .int .i64 b ∧ a ≤ b ∧ b ≤ s.size ∧ l.length ≤ 2 * a ∧ l ++ comp s.data.toList b a = compress s.data.toList ∧ wr.ownsRow W.heap.size 5 1 o l.length (by8 l) ∧ Held W wr) (fun _ _ i _ => s.size - (intOf i).toNat)
  case atStart => exact ⟨[], 0, 0, rfl, rfl, Nat.le_refl _, Nat.zero_le _, Nat.zero_le _, rfl, World.ownsRow_nil _ _ _ _, Held.refl _⟩
  case round =>
    obtain ⟨l, a, b, rfl, rfl, hab, hbs, hll, hcomp, hown, hh⟩ := hrel
    have HC := Lib.hid (And.intro hown hh)
    have HL := Lib.hid hcomp
    clear hown hh hcomp
    by_cases hlt : (b : Int) < s.size
    · obtain ⟨⟨d, n⟩, hdn⟩ : ∃ dn, mat s.data.toList b = dn := ⟨_, rfl⟩
      have hsp := mat_spec s.data.toList b
      rw [hdn, size_len] at hsp
      have HD := Lib.hid hdn
      clear hdn
      have hmr := Lib.hid (match_ref s b wr hs' hbs)
      go_wp2_with fail
      refine hmr.out.mono ?_
      rintro e w2 ⟨rfl, hh2⟩
      rw [HD.out]
      have HO2 : Hid (w2.ownsRow W.heap.size 5 1 u3 l.length (by8 l)) := own_block HC.out.1 (fun g hg => hh2.block g (World.ownsRow.lt HC.out.1 g hg).2)
      have HH2 := Lib.hid (HC.out.2.step hh2)
      clear hh2 hmr
      by_cases hn : n = 0
      · have HS := comp_skip (s := s.data.toList) (i := b) (st := a) (by rw [size_len]; omega) (by rw [HD.out]; exact hn)
        rw [HS] at HL
        clear HS
        subst hn
        go_wp2
        go_roundw
        case rel => exact ⟨l, a, b + 1, rfl, by go_num, by omega, by omega, hll, HL.out, HO2.out, HH2.out⟩
        case measure => (simp [intOf]) <;> omega
      · have hn4 : 4 ≤ n ∧ n ≤ 67 ∧ n ≤ s.size - b ∧ 1 ≤ d ∧ d ≤ 255 := by
          rcases hsp with h1 | h1
          · injection h1 with _ h1; exact absurd h1 hn
          · exact ⟨h1.1, h1.2.1, h1.2.2.1, h1.2.2.2.1, h1.2.2.2.2.1⟩
        have HS := comp_match (s := s.data.toList) (i := b) (st := a) (by rw [size_len]; omega) (by rw [HD.out]; exact hn)
        rw [HS, HD.out, ← slice_take] at HL
        clear HS hsp
        have hn' : ((n : Int) == 0) = false := by simp; omega
        have hnn : ¬ (n : Int) = 0 := by omega
        clear hn
        have hlits := lits_le (s.extract a b).data.toList
        rw [slice_take, List.length_take, List.length_drop, size_len, ← slice_take] at hlits
        have hlr := Lib.hid (lits_ref (s.extract a b) w2 (by simp; omega))
        go_wp2_with fail
        refine hlr.out.mono ?_
        rintro e w3 ⟨rfl, hh3⟩
        have hown3 := own_block HO2.out (fun g hg => hh3.block g (World.ownsRow.lt HO2.out g hg).2)
        have HO3 := Lib.hid hown3
        have HH3 := Lib.hid (HH2.out.step hh3)
        have hb3 := HH3.out.le
        clear hh3 hlr
        have hL3 : (l ++ lits (s.extract a b).data.toList).length ≤ 2 * b := by rw [List.length_append]; omega
        have hL4 : l.length + (lits (s.extract a b).data.toList).length ≤ 2 * b := by omega
        generalize hM : lits (s.extract a b).data.toList = M at *
        clear hM
        go_wp2_with (first | (at_builtin; refine app_strM _ rfl _ _ rfl W.heap.size _ l ⟨M.toArray⟩ rfl hown3 rfl (by simp [ByteArray.size]; omega) (by omega) ?_; intro o4 w4 hown4 hg4 hm4) | (at_builtin; refine app_u8M _ rfl _ _ rfl W.heap.size _ (l ++ M) [UInt8.ofNat (124 + n), UInt8.ofNat d] ⟨w4.heap.size, 0, none⟩ 2 2 rfl (hown4.alloc _) rfl rfl (two_cells _ _ _ _ _ (byte_len n (by omega)) (byte_dist d (by omega)) _) (by omega) (by have := hg4.size; simp; omega) ?_; intro o5 w5 hown5 hg5 hm5))
        go_roundw
        case rel =>
          have h4 := held_grown0 HH3.out HO3.out hg4
          have h5 := held_grown h4 hown4 hg5
          refine ⟨l ++ M ++ [UInt8.ofNat (124 + n), UInt8.ofNat d], b + n, b + n, by go_num, by go_num, Nat.le_refl _, by omega, by simp; omega, ?_, hown5, h5⟩
          rw [← HL.out]; simp
        case measure => (simp [intOf]) <;> omega
    · have hbe : b = s.size := by omega
      subst hbe
      rw [comp_end (by rw [size_len]; exact Nat.le_refl _), ← slice_drop] at HL
      have hlr := Lib.hid (lits_ref (s.extract a s.size) wr (by simp; omega))
      have hlits := lits_le (s.extract a s.size).data.toList
      rw [slice_drop, List.length_drop, size_len, ← slice_drop] at hlits
      go_wp2_with fail
      refine hlr.out.mono ?_
      rintro e w3 ⟨rfl, hh3⟩
      have hown3 := own_block HC.out.1 (fun g hg => hh3.block g (World.ownsRow.lt HC.out.1 g hg).2)
      have HO3 := Lib.hid hown3
      have HH3 := Lib.hid (HC.out.2.step hh3)
      have hb3 := HH3.out.le
      clear hh3 hlr
      generalize lits (s.extract a s.size).data.toList = M at *
      go_wp2_with (at_builtin; refine app_strM _ rfl _ _ rfl W.heap.size _ l ⟨M.toArray⟩ rfl hown3 rfl (by simp [ByteArray.size]; omega) (by omega) ?_; intro o4 w4 hown4 hg4 hm4; have hcv := conv_own hown4)
      go_ret
      exact ⟨by rw [← HL.out]; rfl, held_grown0 HH3.out HO3.out hg4⟩
end Cp
end Go.Proofs.YthpjbffhdaaibaaGreat
