/-
  Contracts of compression (chapter 20), part D: Compress, the program's and the reference's.
-/
import Derived.Test.YtgfbfmgdlbdlhaaCpC
set_option linter.unusedVariables false
set_option maxRecDepth 100000
namespace Go.Proofs.Ytgfbfmgdlbdlhaa
open Go.RowKit
open By
namespace Cp
theorem lits_len : ∀ (n : Nat) (l : List UInt8), l.length ≤ n → (lits l).length = l.length + (l.length + 127) / 128
  | 0, [], _ => rfl
  | 0, _ :: _, h => by simp at h
  | n + 1, l, h => by
    by_cases h0 : l.length = 0
    · rw [List.eq_nil_of_length_eq_zero h0]; rfl
    · rw [lits_step (by omega), List.length_cons, List.length_append, lits_len n (l.drop (min 128 l.length)) (by rw [List.length_drop]; omega), List.length_take, List.length_drop]
      omega
theorem lits_le (l : List UInt8) : (lits l).length ≤ 2 * l.length := by
  rw [lits_len _ l (Nat.le_refl _)]
  by_cases h : l.length = 0
  · rw [h]; decide
  · omega
theorem own_block {w w' : World} {base : Nat} {e : TypeId} {size n : Nat} {v : Value} {xs : List Value} (h : w.ownsRow base e size v n xs) (hb : ∀ g, v.ownBlock = some g → w'.heap[g]? = w.heap[g]?) : w'.ownsRow base e size v n xs := by
  refine ⟨h.1, h.2.imp id ?_⟩
  rintro ⟨g, cap, cur, rfl, h1, h2, h3⟩
  exact ⟨g, cap, cur, rfl, h1, (hb g rfl).trans h2, h3⟩
/-- Compress on its way: the window at n, the bytes l in the slice o. -/
structure Cst (W : World) (wb m : Nat) (s : ByteArray) (n : Nat) (o : Value) (l : List UInt8) (w : World) : Prop where
  blk : w.heap[wb]? = some (.cells #[.string s, .map (some m), .int .i64 (n : Int)] 75 (0, 0))
  win : ∃ F, Win.Win 3 w m F (fun g => pos s.data.toList g n) ∧ ¬ F wb ∧ (∀ b, F b → W.heap.size ≤ b) ∧ ∀ g, o.ownBlock = some g → ¬ F g ∧ g ≠ wb
  own : w.ownsRow W.heap.size 5 1 o l.length (by8 l)
  hwb : W.heap.size ≤ wb
  held : Held W w
namespace Cst
variable {W w : World} {wb m n : Nat} {s : ByteArray} {o : Value} {l : List UInt8}
theorem lt (h : Cst W wb m s n o l w) : wb < w.heap.size := (Array.getElem?_eq_some_iff.1 h.blk).1
theorem own_lt (h : Cst W wb m s n o l w) : ∀ g, o.ownBlock = some g → g < w.heap.size := fun g hg => (World.ownsRow.lt h.own g hg).2
theorem moved {w' : World} {F : Nat → Prop} (h : Cst W wb m s n o l w) {i : Nat} (hF : ¬ F wb) (hB : ∀ b, F b → W.heap.size ≤ b) (ho : ∀ g, o.ownBlock = some g → ¬ F g ∧ g ≠ wb) (hm : Mv wb m s F w i (fun g => pos s.data.toList g i) w') : Cst W wb m s i o l w' := by
  obtain ⟨F', hw', hF'⟩ := hm.win
  have hle := h.held.le
  have hlt := h.lt
  refine ⟨hm.blk, ⟨F', hw', fun hb => ?_, fun b hb => ?_, fun g hg => ?_⟩, own_block h.own (fun g hg => hm.kept.block g (h.own_lt g hg) ?_), h.hwb, hm.kept.held h.held ?_⟩
  · rcases hF' wb hb with h1 | h1
    · exact hF h1
    · omega
  · rcases hF' b hb with h1 | h1
    · exact hB b h1
    · omega
  · refine ⟨fun hb => ?_, (ho g hg).2⟩
    rcases hF' g hb with h1 | h1
    · exact (ho g hg).1 h1
    · have := h.own_lt g hg; omega
  · rintro (h1 | h1)
    · exact (ho g hg).1 h1
    · exact (ho g hg).2 h1
  · rintro x (h1 | rfl)
    · exact hB x h1
    · exact h.hwb
theorem out {w' : World} {o' : Value} {l' : List UInt8} (h : Cst W wb m s n o l w) (hk : Win.Kept (fun x => some x = o.ownBlock) w w') (hm : Moved w o o') (hown : w'.ownsRow W.heap.size 5 1 o' l'.length (by8 l')) : Cst W wb m s n o' l' w' := by
  obtain ⟨F, ⟨es, c, V, hI⟩, hF, hB, ho⟩ := h.win
  have hlt := h.lt
  refine ⟨(hk.block wb h.lt (fun e => (ho wb e.symm).2 rfl)).trans h.blk, ⟨F, ⟨es, c, V, hI.kept hk (fun b hb e => (ho b e.symm).1 hb)⟩, hF, hB, fun g hg => ?_⟩, hown, h.hwb, hk.held h.held ?_⟩
  · rcases hm g hg with h1 | h1
    · exact ho g h1
    · refine ⟨fun hb => ?_, by omega⟩
      have := hI.lt g hb; omega
  · intro x hx
    exact (World.ownsRow.lt h.own x hx.symm).1
theorem keep {w' : World} (h : Cst W wb m s n o l w) (hk : Held w w') : Cst W wb m s n o l w' :=
  h.out (Win.Kept.of_held hk) (Moved.refl _ _) (own_block h.own (fun g hg => hk.block g (h.own_lt g hg)))
theorem mv (h : Cst W wb m s n o l w) (F : Nat → Prop) (hw : Win.Win 3 w m F (fun g => pos s.data.toList g n)) : Mv wb m s F w n (fun g => pos s.data.toList g n) w :=
  ⟨h.blk, ⟨F, hw, fun _ h => .inl h⟩, Win.Kept.refl _ _⟩
end Cst
theorem cst_start (W : World) (s : ByteArray) : Cst W (W.heap.size + 1) W.heap.size s 0 (.slice none 0 0) [] ((W.alloc (.map #[] 0)).alloc (.cells #[.string s, .map (some W.heap.size), .int .i64 0] 75)) := by
  have hw := Win.Win.made (e := 3) W
  obtain ⟨es, c, V, hI⟩ := hw
  refine ⟨?_, ⟨_, ⟨es, c, V, hI.held ((Held.refl _).alloc _)⟩, by simp, fun b hb => by subst hb; exact Nat.le_refl _, fun g hg => by cases hg⟩, World.ownsRow_nil _ _ _ _, Nat.le_succ _, ((Held.refl W).alloc _).alloc _⟩
  have := heap_alloc_new (W.alloc (.map #[] 0)) (.cells #[.string s, .map (some W.heap.size), .int .i64 0] 75)
  simpa using this
theorem cst_move {W w : World} {wb m n : Nat} {s : ByteArray} {o : Value} {l : List UInt8} (h : Cst W wb m s n o l w) (i : Nat) (hs : (s.size : Int) ≤ 1099511627776) (hi : i ≤ s.size) (h0 : n ≤ i) :
    Calls Try.prog 48 #[.pointer (some ⟨wb, 0, none⟩), .int .i64 i] w fun e w' => e = .returned (.tuple #[]) ∧ Cst W wb m s i o l w' := by
  obtain ⟨F, hw, hF, hB, ho⟩ := h.win
  exact (move_any wb m s F w n i hs hF hi (h.mv F hw) h0).mono fun e w' ⟨h1, h2⟩ => ⟨h1, h.moved hF hB ho h2⟩
theorem cst_match {W w : World} {wb m : Nat} {s : ByteArray} {o : Value} {l : List UInt8} {i : Nat} (h : Cst W wb m s i o l w) (hs : (s.size : Int) ≤ 1099511627776) (hi : i ≤ s.size) (d n : Nat) (hdn : mat s.data.toList i = (d, n)) :
    Calls Try.prog 49 #[.pointer (some ⟨wb, 0, none⟩), .int .i64 i] w fun e w' => e = .returned (.tuple #[.int .i64 d, .int .i64 n]) ∧ Cst W wb m s i o l w' := by
  obtain ⟨F, hw, hF, hB, ho⟩ := h.win
  refine (match_any wb m s F w w i hs hi (h.mv F hw)).mono fun e w' ⟨h1, h2⟩ => ⟨?_, h.keep h2⟩
  rw [h1, hdn]
theorem cst_lits {W w : World} {wb m n : Nat} {s t : ByteArray} {o : Value} {l : List UInt8} (h : Cst W wb m s n o l w) (ht : t.size ≤ 1099511627776) (hl : l.length ≤ 10995116277760) (L : List UInt8) (hL : L = l ++ lits t.data.toList) :
    Calls Try.prog 50 #[o, .string t] w fun e w' => ∃ o', e = .returned o' ∧ Cst W wb m s n o' L w' := by
  subst hL
  refine (lits_any o l t w W.heap.size h.own h.held.le ht hl).mono ?_
  rintro e w' ⟨v', rfl, h1, h2, h3⟩
  exact ⟨v', rfl, h.out h2 h3 h1⟩
theorem slice_take (s : ByteArray) (a b : Nat) : (s.extract a b).data.toList = (s.data.toList.drop a).take (b - a) := ex_list s a b
theorem slice_drop (s : ByteArray) (a : Nat) : (s.extract a s.size).data.toList = s.data.toList.drop a := by
  rw [ex_list, List.take_of_length_le (by rw [List.length_drop, size_len]; omega)]
theorem byte_len (n : Nat) (h : n ≤ 67) : (124 : Int) + n = ((UInt8.ofNat (124 + n)).toNat : Int) := by
  simp [UInt8.toNat_ofNat']; omega
theorem byte_dist (d : Nat) (h : d ≤ 255) : (d : Int) = ((UInt8.ofNat d).toNat : Int) := by
  simp [UInt8.toNat_ofNat']; omega
set_option maxHeartbeats 4000000 in
theorem compress_any (s : ByteArray) (W : World) (hs : s.size ≤ 1099511627776) :
    Calls Try.prog 42 #[.string s] W fun e w' => e = .returned (.string ⟨(compress s.data.toList).toArray⟩) ∧ Held W w' := by
  have hs' : (s.size : Int) ≤ 1099511627776 := by omega
  have hst := cst_start W s
  have hmm := @run_makeMap Try.prog
  go_enter Try.func42, Try.ntmps42
  go_wp2
  go_loopw [4, 5, 6] (fun o st i wr => ∃ (l : List UInt8) (a b c : Nat), st = .int .i64 a ∧ i = .int .i64 b ∧ a ≤ b ∧ c ≤ b ∧ b ≤ s.size ∧ l.length ≤ 2 * a ∧ l ++ comp s.data.toList b a = compress s.data.toList ∧ Cst W (W.heap.size + 1) W.heap.size s c o l wr) (fun _ _ i _ => s.size - (intOf i).toNat)
  case atStart => exact ⟨[], 0, 0, 0, rfl, rfl, Nat.le_refl _, Nat.le_refl _, Nat.zero_le _, Nat.zero_le _, rfl, hst⟩
  case round =>
    obtain ⟨l, a, b, c, rfl, rfl, hab, hcb, hbs, hll, hcomp, hcs⟩ := hrel
    have HC := Lib.hid hcs
    have HL := Lib.hid hcomp
    clear hcs hcomp hst
    by_cases hlt : (b : Int) < s.size
    · obtain ⟨⟨d, n⟩, hdn⟩ : ∃ dn, mat s.data.toList b = dn := ⟨_, rfl⟩
      have hsp := mat_spec s.data.toList b
      rw [hdn, size_len] at hsp
      have HD := Lib.hid hdn
      clear hdn
      go_wp2_with fail
      refine (cst_move HC.out b hs' hbs hcb).mono ?_
      rintro e w1 ⟨rfl, hc1⟩
      have HC1 := Lib.hid hc1
      clear hc1
      go_wp2_with fail
      refine (cst_match HC1.out hs' hbs d n HD.out).mono ?_
      rintro e w2 ⟨rfl, hc2⟩
      have HC2 := Lib.hid hc2
      clear hc2
      by_cases hn : n = 0
      · have HS := comp_skip (s := s.data.toList) (i := b) (st := a) (by rw [size_len]; omega) (by rw [HD.out]; exact hn)
        rw [HS] at HL
        clear HS
        subst hn
        go_wp2
        go_roundw
        case rel => exact ⟨l, a, b + 1, b, rfl, by go_num, by omega, by omega, by omega, hll, HL.out, HC2.out⟩
        case measure => (simp [intOf]) <;> omega
      · have hn4 : 4 ≤ n ∧ n ≤ 67 ∧ n ≤ s.size - b ∧ 1 ≤ d ∧ d ≤ 255 := by
          rcases hsp with h1 | h1
          · injection h1 with _ h1; exact absurd h1 hn
          · exact ⟨h1.1, h1.2.1, h1.2.2.1, h1.2.2.2.1, h1.2.2.2.2.1⟩
        have HS := comp_match (s := s.data.toList) (i := b) (st := a) (by rw [size_len]; omega) (by rw [HD.out]; exact hn)
        rw [HS, HD.out, ← slice_take] at HL
        clear HS hsp
        have hn' : ((n : Int) == 0) = false := by simp; omega
        have hnn : ¬ (n : Int) = 0 := by omega
        clear hn
        have hlits := lits_le (s.extract a b).data.toList
        rw [slice_take, List.length_take, List.length_drop, size_len, ← slice_take] at hlits
        go_wp2_with fail
        refine (cst_lits HC2.out (t := s.extract a b) (by simp; omega) (by omega) _ rfl).mono ?_
        rintro e w3 ⟨o3, rfl, hc3⟩
        have HC3 := Lib.hid hc3
        have hown3 := hc3.own
        have hb3 := hc3.held.le
        clear hc3
        have hL3 : (l ++ lits (s.extract a b).data.toList).length ≤ 2 * b := by rw [List.length_append]; omega
        generalize hM : l ++ lits (s.extract a b).data.toList = M at *
        have HM := Lib.hid hM
        clear hM
        go_wp2_with (at_builtin; refine app_u8M _ rfl _ _ rfl W.heap.size _ M [UInt8.ofNat (124 + n), UInt8.ofNat d] ⟨w3.heap.size, 0, none⟩ 2 2 rfl (hown3.alloc _) rfl rfl (two_cells _ _ _ _ _ (byte_len n (by omega)) (byte_dist d (by omega)) _) (by omega) (by simp; omega) ?_; intro o4 w4 hown4 hg4 hm4)
        go_roundw
        case rel =>
          have hk4 := grown_kept (Win.Kept.refl _ _) (Moved.refl _ _) hg4 hm4
          refine ⟨M ++ [UInt8.ofNat (124 + n), UInt8.ofNat d], b + n, b + n, b, by go_num, by go_num, Nat.le_refl _, by omega, by omega, by simp; omega, ?_, HC3.out.out hk4.1 hk4.2 hown4⟩
          rw [← HL.out, ← HM.out]; simp
        case measure => (simp [intOf]) <;> omega
    · have hbe : b = s.size := by omega
      subst hbe
      rw [comp_end (by rw [size_len]; exact Nat.le_refl _), ← slice_drop] at HL
      go_wp2_with fail
      refine (cst_lits HC.out (t := s.extract a s.size) (by simp; omega) (by omega) _ rfl).mono ?_
      rintro e w3 ⟨o3, rfl, hc3⟩
      have hcv := conv_own hc3.own
      rw [HL.out] at hcv
      have HH := Lib.hid hc3.held
      clear hc3
      go_wp2
      go_ret
      exact ⟨rfl, HH.out⟩
set_option maxHeartbeats 4000000 in
theorem compress_ref (s : ByteArray) (W : World) (hs : s.size ≤ 1099511627776) :
    Calls Try.prog 51 #[.string s] W fun e w' => e = .returned (.string ⟨(compress s.data.toList).toArray⟩) ∧ Held W w' := by
  have hs' : (s.size : Int) ≤ 1099511627776 := by omega
  go_enter Try.func51, Try.ntmps51
  go_wp2
  go_loopw [3, 4, 5] (fun o st i wr => ∃ (l : List UInt8) (a b : Nat), st = .int .i64 a ∧ i = .int .i64 b ∧ a ≤ b ∧ b ≤ s.size ∧ l.length ≤ 2 * a ∧ l ++ comp s.data.toList b a = compress s.data.toList ∧ wr.ownsRow W.heap.size 5 1 o l.length (by8 l) ∧ Held W wr) (fun _ _ i _ => s.size - (intOf i).toNat)
  case atStart => exact ⟨[], 0, 0, rfl, rfl, Nat.le_refl _, Nat.zero_le _, Nat.zero_le _, rfl, World.ownsRow_nil _ _ _ _, Held.refl _⟩
  case round =>
    obtain ⟨l, a, b, rfl, rfl, hab, hbs, hll, hcomp, hown, hh⟩ := hrel
    have HC := Lib.hid (And.intro hown hh)
    have HL := Lib.hid hcomp
    clear hown hh hcomp
    by_cases hlt : (b : Int) < s.size
    · obtain ⟨⟨d, n⟩, hdn⟩ : ∃ dn, mat s.data.toList b = dn := ⟨_, rfl⟩
      have hsp := mat_spec s.data.toList b
      rw [hdn, size_len] at hsp
      have HD := Lib.hid hdn
      clear hdn
      have hmr := Lib.hid (match_ref s b wr hs' hbs)
      go_wp2_with fail
      refine hmr.out.mono ?_
      rintro e w2 ⟨rfl, hh2⟩
      rw [HD.out]
      have HO2 : Hid (w2.ownsRow W.heap.size 5 1 u3 l.length (by8 l)) := own_block HC.out.1 (fun g hg => hh2.block g (World.ownsRow.lt HC.out.1 g hg).2)
      have HH2 := Lib.hid (HC.out.2.step hh2)
      clear hh2 hmr
      by_cases hn : n = 0
      · have HS := comp_skip (s := s.data.toList) (i := b) (st := a) (by rw [size_len]; omega) (by rw [HD.out]; exact hn)
        rw [HS] at HL
        clear HS
        subst hn
        go_wp2
        go_roundw
        case rel => exact ⟨l, a, b + 1, rfl, by go_num, by omega, by omega, hll, HL.out, HO2.out, HH2.out⟩
        case measure => (simp [intOf]) <;> omega
      · have hn4 : 4 ≤ n ∧ n ≤ 67 ∧ n ≤ s.size - b ∧ 1 ≤ d ∧ d ≤ 255 := by
          rcases hsp with h1 | h1
          · injection h1 with _ h1; exact absurd h1 hn
          · exact ⟨h1.1, h1.2.1, h1.2.2.1, h1.2.2.2.1, h1.2.2.2.2.1⟩
        have HS := comp_match (s := s.data.toList) (i := b) (st := a) (by rw [size_len]; omega) (by rw [HD.out]; exact hn)
        rw [HS, HD.out, ← slice_take] at HL
        clear HS hsp
        have hn' : ((n : Int) == 0) = false := by simp; omega
        have hnn : ¬ (n : Int) = 0 := by omega
        clear hn
        have hlits := lits_le (s.extract a b).data.toList
        rw [slice_take, List.length_take, List.length_drop, size_len, ← slice_take] at hlits
        have hlr := Lib.hid (lits_ref (s.extract a b) w2 (by simp; omega))
        go_wp2_with fail
        refine hlr.out.mono ?_
        rintro e w3 ⟨rfl, hh3⟩
        have hown3 := own_block HO2.out (fun g hg => hh3.block g (World.ownsRow.lt HO2.out g hg).2)
        have HO3 := Lib.hid hown3
        have HH3 := Lib.hid (HH2.out.step hh3)
        have hb3 := HH3.out.le
        clear hh3 hlr
        have hL3 : (l ++ lits (s.extract a b).data.toList).length ≤ 2 * b := by rw [List.length_append]; omega
        have hL4 : l.length + (lits (s.extract a b).data.toList).length ≤ 2 * b := by omega
        generalize hM : lits (s.extract a b).data.toList = M at *
        clear hM
        go_wp2_with (first | (at_builtin; refine app_strM _ rfl _ _ rfl W.heap.size _ l ⟨M.toArray⟩ rfl hown3 rfl (by simp [ByteArray.size]; omega) (by omega) ?_; intro o4 w4 hown4 hg4 hm4) | (at_builtin; refine app_u8M _ rfl _ _ rfl W.heap.size _ (l ++ M) [UInt8.ofNat (124 + n), UInt8.ofNat d] ⟨w4.heap.size, 0, none⟩ 2 2 rfl (hown4.alloc _) rfl rfl (two_cells _ _ _ _ _ (byte_len n (by omega)) (byte_dist d (by omega)) _) (by omega) (by have := hg4.size; simp; omega) ?_; intro o5 w5 hown5 hg5 hm5))
        go_roundw
        case rel =>
          have h4 := held_grown0 HH3.out HO3.out hg4
          have h5 := held_grown h4 hown4 hg5
          refine ⟨l ++ M ++ [UInt8.ofNat (124 + n), UInt8.ofNat d], b + n, b + n, by go_num, by go_num, Nat.le_refl _, by omega, by simp; omega, ?_, hown5, h5⟩
          rw [← HL.out]; simp
        case measure => (simp [intOf]) <;> omega
    · have hbe : b = s.size := by omega
      subst hbe
      rw [comp_end (by rw [size_len]; exact Nat.le_refl _), ← slice_drop] at HL
      have hlr := Lib.hid (lits_ref (s.extract a s.size) wr (by simp; omega))
      have hlits := lits_le (s.extract a s.size).data.toList
      rw [slice_drop, List.length_drop, size_len, ← slice_drop] at hlits
      go_wp2_with fail
      refine hlr.out.mono ?_
      rintro e w3 ⟨rfl, hh3⟩
      have hown3 := own_block HC.out.1 (fun g hg => hh3.block g (World.ownsRow.lt HC.out.1 g hg).2)
      have HO3 := Lib.hid hown3
      have HH3 := Lib.hid (HC.out.2.step hh3)
      have hb3 := HH3.out.le
      clear hh3 hlr
      generalize lits (s.extract a s.size).data.toList = M at *
      go_wp2_with (at_builtin; refine app_strM _ rfl _ _ rfl W.heap.size _ l ⟨M.toArray⟩ rfl hown3 rfl (by simp [ByteArray.size]; omega) (by omega) ?_; intro o4 w4 hown4 hg4 hm4; have hcv := conv_own hown4)
      go_ret
      exact ⟨by rw [← HL.out]; rfl, held_grown0 HH3.out HO3.out hg4⟩
end Cp
end Go.Proofs.Ytgfbfmgdlbdlhaa
