/-
  Contracts of compression (chapter 20), part A: the group of a window, the tokens of a run (both), the reference's match.
-/
import Derived.Test.YtgfbfmgdlbdlhaaBy
import Derived.Test.YtgfbfmgdlbdlhaaCp
import Derived.Test.YtgfbfmgdlbdlhaaWin
import Derived.Lib.Strings
import Derived.Deep.RegionHeld3
import Derived.BigQuiet
import Derived.Deep.QuietTactic
set_option linter.unusedVariables false
set_option maxRecDepth 100000
namespace Go.Proofs.Ytgfbfmgdlbdlhaa
open Go.RowKit
open By
open Go.Lib (extract_data)
namespace Cp
theorem size_len (s : ByteArray) : s.data.toList.length = s.size := by simp
theorem ex_list (s : ByteArray) (a b : Nat) : (s.extract a b).data.toList = (s.data.toList.drop a).take (b - a) := extract_data s a b
theorem group_some (wb : Nat) (s : ByteArray) (i : Nat) (w : World) (hc : w.cell? ⟨wb, 0, none⟩ = some (.string s)) (hs : (s.size : Int) ≤ 1099511627776) (hi : i + 4 ≤ s.size) :
    Calls Try.prog 53 #[.pointer (some ⟨wb, 0, none⟩), .int .i64 i] w fun e w' => e = .returned (.tuple #[.string (s.extract i (i + 4)), .bool true]) ∧ w = w' := by
  have h1 : ¬ ((i : Int) < 0) := by omega
  go_enter Try.func53, Try.ntmps53
  go_wp2
  go_ret2
  exact ⟨rfl, rfl⟩
theorem group_none (wb : Nat) (s : ByteArray) (i : Int) (w : World) (hc : w.cell? ⟨wb, 0, none⟩ = some (.string s)) (hs : (s.size : Int) ≤ 1099511627776) (hi : i < 0 ∨ (s.size : Int) < i + 4) (h1 : -1099511627776 ≤ i) (h2 : i ≤ 1099511627776) :
    Calls Try.prog 53 #[.pointer (some ⟨wb, 0, none⟩), .int .i64 i] w fun e w' => e = .returned (.tuple #[.string ⟨#[]⟩, .bool false]) ∧ w = w' := by
  by_cases h0 : i < 0
  · clear hi
    go_enter Try.func53, Try.ntmps53
    go_wp2
    go_ret2
    exact ⟨rfl, rfl⟩
  · have h3 : (s.size : Int) < i + 4 := by omega
    clear hi
    go_enter Try.func53, Try.ntmps53
    go_wp2
    go_ret2
    exact ⟨rfl, rfl⟩
theorem byte_n (n : Nat) (h1 : 1 ≤ n) (h2 : n ≤ 128) : (n : Int) - 1 = ((UInt8.ofNat (n - 1)).toNat : Int) := by
  simp [UInt8.toNat_ofNat']; omega
theorem min_eq1 (a b : Nat) : min a b = if b < a then b else a := by split <;> omega
/-- What a function leaves that appends to bytes of the call's own. -/
def Out (B : Nat) (v : Value) (L : List UInt8) (w : World) (e : Ending) (w' : World) : Prop := ∃ v', e = .returned v' ∧ w'.ownsRow B 5 1 v' L.length (by8 L) ∧ Win.Kept (fun x => some x = v.ownBlock) w w' ∧ Moved w v v'
theorem Out.mk {B : Nat} {v : Value} {L : List UInt8} {w w' : World} (v' : Value) {M : List UInt8} (hM : M = L) (h : w'.ownsRow B 5 1 v' M.length (by8 M)) (hk : Win.Kept (fun x => some x = v.ownBlock) w w') (hm : Moved w v v') : Out B v L w (.returned v') w' := by
  subst hM; exact ⟨v', rfl, h, hk, hm⟩
theorem grown_kept {w wr w1 : World} {v u v1 : Value} {o : Obj} (hk : Win.Kept (fun x => some x = v.ownBlock) w wr) (hm : Moved w v u) (hg : (wr.alloc o).grownBy w1 u.ownBlock) (hm1 : Moved (wr.alloc o) u v1) : Win.Kept (fun x => some x = v.ownBlock) w w1 ∧ Moved w v v1 := by
  have hs := hk.size
  refine ⟨⟨hg.os.trans hk.os, hg.tape.trans hk.tape, hg.output.trans hk.output, by have := hg.size; simp at this; omega, fun b hb hne => ?_⟩, hm.trans hm1 (by simp; omega)⟩
  rw [hg.block b (by simp; omega) ?_, ← hk.block b hb hne]
  · exact Below.heap_alloc wr o b (by omega)
  · intro e
    rcases hm b e.symm with h1 | h1
    · exact hne h1.symm
    · omega
theorem grown_kept0 {w wr w1 : World} {v u v1 : Value} (hk : Win.Kept (fun x => some x = v.ownBlock) w wr) (hm : Moved w v u) (hg : wr.grownBy w1 u.ownBlock) (hm1 : Moved wr u v1) : Win.Kept (fun x => some x = v.ownBlock) w w1 ∧ Moved w v v1 := by
  have hs := hk.size
  refine ⟨⟨hg.os.trans hk.os, hg.tape.trans hk.tape, hg.output.trans hk.output, by have := hg.size; omega, fun b hb hne => ?_⟩, hm.trans hm1 (by omega)⟩
  rw [hg.block b (by omega) ?_, ← hk.block b hb hne]
  intro e
  rcases hm b e.symm with h1 | h1
  · exact hne h1.symm
  · omega
theorem lits_any (v : Value) (l : List UInt8) (s : ByteArray) (w : World) (B : Nat) (hown : w.ownsRow B 5 1 v l.length (by8 l)) (hB : B ≤ w.heap.size) (hs : s.size ≤ 1099511627776) (hl : l.length ≤ 10995116277760) :
    Calls Try.prog 50 #[v, .string s] w (Out B v (l ++ lits s.data.toList) w) := by
  go_enter Try.func50, Try.ntmps50
  go_wp2
  go_loopw [0, 1] (fun o r wr => ∃ (m : List UInt8) (t : ByteArray), r = .string t ∧ t.size ≤ s.size ∧ m.length + 2 * t.size ≤ l.length + 2 * s.size ∧ m ++ lits t.data.toList = l ++ lits s.data.toList ∧ wr.ownsRow B 5 1 o m.length (by8 m) ∧ Win.Kept (fun x => some x = v.ownBlock) w wr ∧ Moved w v o)
    (fun _ r _ => match r with | .string t => t.size | _ => 0)
  case atStart => exact ⟨l, s, rfl, Nat.le_refl _, Nat.le_refl _, rfl, hown, Win.Kept.refl _ _, Moved.refl _ _⟩
  case round =>
    obtain ⟨m, t, rfl, ht, hm, he, hown1, hk, hmv⟩ := hrel
    have HE := Lib.hid he
    have HK := Lib.hid hk
    have HM := Lib.hid hmv
    have HO := Lib.hid hown1
    have hsz := hk.size
    clear he hk hmv
    have ht' : (t.size : Int) ≤ 1099511627776 := by omega
    by_cases h0 : t.size = 0
    · have h0' : ¬ (0 : Int) < (t.size : Int) := by omega
      have HF : Hid (m = l ++ lits s.data.toList) := by
        have h1 : t.data.toList = [] := List.eq_nil_of_length_eq_zero (by rw [size_len]; exact h0)
        have h2 := HE.out
        rw [h1, lits_nil, List.append_nil] at h2
        exact h2
      clear h0
      go_wp2
      go_ret
      exact Out.mk u0 HF.out HO.out HK.out HM.out
    · have h0' : (0 : Int) < (t.size : Int) := by omega
      have HL : Hid (∀ n, n = min 128 t.size → (m ++ [UInt8.ofNat (n - 1)] ++ (t.extract 0 n).data.toList) ++ lits (t.extract n t.size).data.toList = l ++ lits s.data.toList) := by
        intro n hn
        have h1 := lits_step (l := t.data.toList) (by rw [size_len]; omega)
        rw [size_len, ← hn] at h1
        rw [← HE.out, h1, ex_list, ex_list, List.drop_zero, Nat.sub_zero, List.take_of_length_le (l := t.data.toList.drop n) (by rw [List.length_drop, size_len]; omega)]
        simp
      have hb9 : ∀ n : Nat, n = min 128 t.size → 1 ≤ n ∧ n ≤ 128 ∧ n ≤ t.size := fun n hn => by omega
      by_cases hlt : (t.size : Int) < 128
      · go_wp2_with (first | (at_builtin; refine app_u8M _ rfl _ _ rfl B _ m [UInt8.ofNat (t.size - 1)] ⟨wr.heap.size, 0, none⟩ 1 1 rfl (hown1.alloc _) rfl rfl (one_cell _ _ _ (byte_n _ (by omega) (by omega)) _) (by omega) (by simp; omega) ?_; intro v1 w1 hown2 hg1 hm1) | (at_builtin; refine app_strM _ rfl _ _ rfl B _ (m ++ [UInt8.ofNat (t.size - 1)]) _ rfl hown2 rfl (by simp; omega) (by have := hg1.size; simp at this; omega) ?_; intro v2 w2 hown3 hg2 hm2))
        go_roundw
        case rel =>
          have g1 := grown_kept HK.out HM.out hg1 hm1
          have g2 := grown_kept0 g1.1 g1.2 hg2 hm2
          exact ⟨m ++ [UInt8.ofNat (t.size - 1)] ++ t.data.toList, ByteArray.empty, rfl, by simp, by simp; omega, by have h := HL.out t.size (by omega); simp at h ⊢; exact h, hown3, g2.1, g2.2⟩
        case measure => simp; omega
      · go_wp2_with (first | (at_builtin; refine app_u8M _ rfl _ _ rfl B _ m [UInt8.ofNat (128 - 1)] ⟨wr.heap.size, 0, none⟩ 1 1 rfl (hown1.alloc _) rfl rfl (one_cell _ _ _ (by decide) _) (by omega) (by simp; omega) ?_; intro v1 w1 hown2 hg1 hm1) | (at_builtin; refine app_strM _ rfl _ _ rfl B _ (m ++ [UInt8.ofNat (128 - 1)]) _ rfl hown2 rfl (by simp; omega) (by have := hg1.size; simp at this; omega) ?_; intro v2 w2 hown3 hg2 hm2))
        go_roundw
        case rel =>
          have g1 := grown_kept HK.out HM.out hg1 hm1
          have g2 := grown_kept0 g1.1 g1.2 hg2 hm2
          exact ⟨m ++ [UInt8.ofNat (128 - 1)] ++ (t.extract 0 128).data.toList, t.extract 128 t.size, rfl, by simp; omega, by simp; omega, HL.out _ (by omega), hown3, g2.1, g2.2⟩
        case measure => simp; omega
theorem held_grown {W w w1 : World} {v : Value} {e : TypeId} {size n : Nat} {xs : List Value} {o : Obj} (hb : Held W w) (hown : w.ownsRow W.heap.size e size v n xs) (hg : (w.alloc o).grownBy w1 v.ownBlock) : Held W w1 := below_app hb hb.size hown hg
theorem held_grown0 {W w w1 : World} {v : Value} {e : TypeId} {size n : Nat} {xs : List Value} (hb : Held W w) (hown : w.ownsRow W.heap.size e size v n xs) (hg : w.grownBy w1 v.ownBlock) : Held W w1 := by
  refine Below.grown hb hg hb.size ?_
  intro k hk
  obtain ⟨_, h⟩ := hown
  rcases h with ⟨rfl, _⟩ | ⟨g, cap, cur, rfl, hg', _⟩
  · simp [Value.ownBlock] at hk
  · simp [Value.ownBlock] at hk; omega
theorem lits_ref (s : ByteArray) (w : World) (hs : s.size ≤ 1099511627776) :
    Calls Try.prog 55 #[.string s] w fun e w' => e = .returned (.string ⟨(lits s.data.toList).toArray⟩) ∧ Held w w' := by
  go_enter Try.func55, Try.ntmps55
  go_wp2
  go_loopw [0, 3] (fun r o wr => ∃ (m : List UInt8) (t : ByteArray), r = .string t ∧ t.size ≤ s.size ∧ m.length + 2 * t.size ≤ 2 * s.size ∧ m ++ lits t.data.toList = lits s.data.toList ∧ wr.ownsRow w.heap.size 5 1 o m.length (by8 m) ∧ Held w wr)
    (fun r _ _ => match r with | .string t => t.size | _ => 0)
  case atStart => exact ⟨[], s, rfl, Nat.le_refl _, by simp, by simp, World.ownsRow_nil _ _ _ _, Held.refl _⟩
  case round =>
    obtain ⟨m, t, rfl, ht, hm, he, hown1, hk⟩ := hrel
    have HE := Lib.hid he
    have HK := Lib.hid hk
    have HO := Lib.hid hown1
    have hsz := hk.size
    clear he hk
    have ht' : (t.size : Int) ≤ 1099511627776 := by omega
    by_cases h0 : t.size = 0
    · have h0' : ¬ (0 : Int) < (t.size : Int) := by omega
      have HF : Hid (m = lits s.data.toList) := by
        have h1 : t.data.toList = [] := List.eq_nil_of_length_eq_zero (by rw [size_len]; exact h0)
        have h2 := HE.out
        rw [h1, lits_nil, List.append_nil] at h2
        exact h2
      have hcv := conv_own hown1
      clear h0
      go_wp2
      go_ret
      exact ⟨by rw [← HF.out]; rfl, HK.out⟩
    · have h0' : (0 : Int) < (t.size : Int) := by omega
      have HL : Hid (∀ n, n = min 128 t.size → (m ++ [UInt8.ofNat (n - 1)] ++ (t.extract 0 n).data.toList) ++ lits (t.extract n t.size).data.toList = lits s.data.toList) := by
        intro n hn
        have h1 := lits_step (l := t.data.toList) (by rw [size_len]; omega)
        rw [size_len, ← hn] at h1
        rw [← HE.out, h1, ex_list, ex_list, List.drop_zero, Nat.sub_zero, List.take_of_length_le (l := t.data.toList.drop n) (by rw [List.length_drop, size_len]; omega)]
        simp
      by_cases hlt : (128 : Int) < (t.size : Int)
      · have hlt1 : (128 : Int) ≤ (t.size : Int) := by omega
        go_wp2
        go_region_held3 (fun _ => True) (trivial)
          (first | (refine app_u8S _ (by rfl) _ _ (by rfl) w.heap.size _ m [UInt8.ofNat (128 - 1)] ⟨wr.heap.size, 0, none⟩ 1 1 (by rfl) (hown1.alloc _) (by rfl) rfl (one_cell _ _ _ (by decide) _) (by omega) (by simp; omega) ?_; intro v1 w1 hown2 hg1 hm1) | (refine app_strS _ (by rfl) _ _ (by rfl) w.heap.size _ (m ++ [UInt8.ofNat (128 - 1)]) _ (by rfl) hown2 (by rfl) (by simp; omega) (by have := hg1.size; simp at this; omega) ?_; intro v2 w2 hown3 hg2 hm2))
        go_wp2
        go_roundw
        case rel =>
          have g1 := held_grown HK.out HO.out ⟨hg1.os, hg1.tape, hg1.output, hg1.size, hg1.block⟩
          have g2 := held_grown0 g1 hown2 hg2
          exact ⟨m ++ [UInt8.ofNat (128 - 1)] ++ (t.extract 0 128).data.toList, t.extract 128 t.size, rfl, by simp; omega, by simp; omega, HL.out _ (by omega), hown3, g2⟩
        case measure => simp; omega
      · have hw1 : IntKind.i64.wrap ((t.size : Int) - 1) = (t.size : Int) - 1 := IntWalk.i64_in _ (by omega)
        have hw2 : IntKind.u8.wrap ((t.size : Int) - 1) = (t.size : Int) - 1 := IntWalk.u8_in _ (by omega)
        go_wp2
        go_region_held3 (fun _ => True) (trivial)
          (first | (refine app_u8S _ (by rfl) _ _ (by rfl) w.heap.size _ m [UInt8.ofNat (t.size - 1)] ⟨wr.heap.size, 0, none⟩ 1 1 (by rfl) (hown1.alloc _) (by rfl) rfl (one_cell _ _ _ (byte_n _ (by omega) (by omega)) _) (by omega) (by simp; omega) ?_; intro v1 w1 hown2 hg1 hm1) | (refine app_strS _ (by rfl) _ _ (by rfl) w.heap.size _ (m ++ [UInt8.ofNat (t.size - 1)]) _ (by rfl) hown2 (by rfl) (by simp; omega) (by have := hg1.size; simp at this; omega) ?_; intro v2 w2 hown3 hg2 hm2))
        go_wp2
        go_roundw
        case rel =>
          have g1 := held_grown HK.out HO.out ⟨hg1.os, hg1.tape, hg1.output, hg1.size, hg1.block⟩
          have g2 := held_grown0 g1 hown2 hg2
          exact ⟨m ++ [UInt8.ofNat (t.size - 1)] ++ t.data.toList, ByteArray.empty, rfl, by simp, by simp; omega, by have h := HL.out t.size (by omega); simp at h ⊢; exact h, hown3, g2⟩
        case measure => simp; omega
/-- How far the match at distance k goes: one step more. -/
theorem lcp_next {a b : List UInt8} {n : Nat} (h : n ≤ lcp a b) : n < lcp a b ↔ ∃ c, a[n]? = some c ∧ b[n]? = some c := by
  induction a generalizing b n with
  | nil => simp [lcp]
  | cons x a ih =>
    cases b with
    | nil => simp [lcp]
    | cons y b =>
      unfold lcp at h ⊢
      split at h
      · rename_i e
        subst e
        rw [if_pos rfl]
        cases n with
        | zero => simp
        | succ n =>
          have := ih (b := b) (n := n) (by omega)
          simp only [List.getElem?_cons_succ]
          rw [← this]; omega
      · rename_i e
        rw [if_neg e]
        obtain rfl : n = 0 := by omega
        simp only [Nat.lt_irrefl, List.getElem?_cons_zero, Option.some.injEq, false_iff]
        rintro ⟨c, rfl, h2⟩
        exact e h2.symm
theorem at_drop (s : ByteArray) (i n : Nat) (h : i + n < s.size) : (s.data.toList.drop i)[n]? = some s[i + n] := by
  rw [List.getElem?_drop, List.getElem?_eq_getElem (by simpa using h)]; rfl
/-- The test of the loops over a match: m bytes agree. -/
theorem more (s : ByteArray) (i k m : Nat) (hk : k ≤ i) (hk1 : 1 ≤ k) (h : i + m < s.size) (hm : m ≤ lcp (s.data.toList.drop i) (s.data.toList.drop (i - k))) :
    m < lcp (s.data.toList.drop i) (s.data.toList.drop (i - k)) ↔ s[i + m] = s[i - k + m] := by
  rw [lcp_next hm, at_drop s i m h, at_drop s (i - k) m (by omega)]
  constructor
  · rintro ⟨c, h1, h2⟩; injection h1 with h1; injection h2 with h2; rw [h1, h2]
  · intro e; exact ⟨_, rfl, by rw [e]⟩
theorem lcp_end (s : ByteArray) (i k m : Nat) (h : s.size ≤ i + m) (hm : m ≤ lcp (s.data.toList.drop i) (s.data.toList.drop (i - k))) : m = lcp (s.data.toList.drop i) (s.data.toList.drop (i - k)) := by
  have := lcp_le (s.data.toList.drop i) (s.data.toList.drop (i - k))
  rw [List.length_drop, size_len] at this; omega
theorem ret_two {a b c d : Int} (h : a = b) (h' : c = d) : Ending.returned (.tuple #[.int .i64 a, .int .i64 c]) = .returned (.tuple #[.int .i64 b, .int .i64 d]) := by rw [h, h']
theorem best_pos {s : List UInt8} {i j q : Nat} (hq : q = mlen s i (j + 1)) (h : (best s i j).2 < q) : best s i (j + 1) = (j + 1, q) := by
  unfold best; rw [if_pos (by omega), hq]
theorem best_neg {s : List UInt8} {i j q : Nat} (hq : q = mlen s i (j + 1)) (h : ¬ (best s i j).2 < q) : best s i (j + 1) = best s i j := by
  conv => lhs; unfold best
  rw [if_neg (by omega)]
theorem match_ref (s : ByteArray) (i : Nat) (w : World) (hs : (s.size : Int) ≤ 1099511627776) (hi : i ≤ s.size) :
    Calls Try.prog 54 #[.string s, .int .i64 i] w fun e w' => e = .returned (.tuple #[.int .i64 (mat s.data.toList i).1, .int .i64 (mat s.data.toList i).2]) ∧ Held w w' := by
  go_enter Try.func54, Try.ntmps54
  go_wp2
  go_loopw [6, 7, 8] (fun d n k wr => ∃ j : Nat, j ≤ 255 ∧ j ≤ i ∧ k = .int .i64 (j + 1 : Nat) ∧ d = .int .i64 (best s.data.toList i j).1 ∧ n = .int .i64 (best s.data.toList i j).2 ∧ Held w wr) (fun _ _ k _ => 256 - (intOf k).toNat)
  case atStart => exact ⟨0, by omega, by omega, rfl, rfl, rfl, Held.refl _⟩
  case round =>
    obtain ⟨j, hj1, hj2, rfl, rfl, rfl, hk⟩ := hrel
    have hb := best_spec s.data.toList i j
    rw [size_len] at hb
    have hb2 := hb.2.1
    have HB := Lib.hid hb
    clear hb
    have HK := Lib.hid hk
    clear hk
    by_cases hlt : j < 255 ∧ j < i
    · obtain ⟨h1, h2⟩ := hlt
      go_wp2
      obtain ⟨wA, hwA⟩ : ∃ wA : World, wA = wr := ⟨_, rfl⟩
      rw [← hwA] at HK ⊢
      clear hwA
      go_loopw [9] (fun m wr => ∃ q : Nat, q ≤ 67 ∧ q ≤ lcp (s.data.toList.drop i) (s.data.toList.drop (i - (j + 1))) ∧ m = .int .i64 q ∧ Held w wr) (fun m _ => 67 - (intOf m).toNat)
      case atStart => exact ⟨0, by omega, by omega, rfl, HK.out⟩
      case round =>
        obtain ⟨q, hq, hqc, rfl, hkk⟩ := hrel
        have HQ := Lib.hid hqc
        have HKK := Lib.hid hkk
        clear hqc hkk
        by_cases ha : (q : Int) < 67
        · by_cases hb : (i : Int) + q < s.size
          · have e1 : IntKind.i64.wrap ((i : Int) + q) = (i : Int) + q := IntWalk.i64_in _ (by omega)
            have e2 : IntKind.i64.wrap ((i : Int) + q - (j + 1)) = (i : Int) + q - (j + 1) := IntWalk.i64_in _ (by omega)
            have e3 : (0 : Int) ≤ (i : Int) + q := by omega
            have e4 := idx s ((i : Int) + q) (i + q) (by omega) (by omega)
            have e5 := idx s ((i : Int) + q - (j + 1)) (i - (j + 1) + q) (by omega) (by omega)
            have hm := more s i (j + 1) q (by omega) (by omega) (by omega) HQ.out
            by_cases hc : s[i + q]'(by omega) = s[i - (j + 1) + q]'(by omega)
            · have HN := Lib.hid (hm.2 hc)
              rw [← hc] at e5
              clear hm hc
              generalize (s[i + q]'(by omega)).toNat = x at e4 e5
              go_wp2
              go_quiet (fail)
              go_wp2
              go_roundw
              case rel => exact ⟨q + 1, by omega, HN.out, by go_num, HKK.out.drewN _⟩
              case measure => simp [intOf]; omega
            · have HN : Hid (q = mlen s.data.toList i (j + 1)) := by
                have h9 := HQ.out
                have : ¬ q < _ := fun h => hc (hm.1 h)
                unfold mlen; show _ = _; omega
              have hne : ¬ (s[i + q]'(by omega)).toNat = (s[i - (j + 1) + q]'(by omega)).toNat := fun h => hc (UInt8.toNat_inj.1 h)
              clear hm hc
              generalize (s[i + q]'(by omega)).toNat = x at e4 hne
              generalize (s[i - (j + 1) + q]'(by omega)).toNat = y at e5 hne
              have hne' : ((x : Int) == (y : Int)) = false := by simp; omega
              clear hne
              go_wp2
              go_quiet (fail)
              go_wp2
              all_goals
                go_roundw
                case rel => first | exact ⟨j + 1, by omega, by omega, by go_num, by (rw [best_pos HN.out (by omega)]) <;> go_num, by (rw [best_pos HN.out (by omega)]) <;> rfl, HKK.out.drewN _⟩ | exact ⟨j + 1, by omega, by omega, by go_num, by (rw [best_neg HN.out (by omega)]) <;> rfl, by (rw [best_neg HN.out (by omega)]) <;> rfl, HKK.out.drewN _⟩
                case measure => simp [intOf]; omega
          · have HN : Hid (q = mlen s.data.toList i (j + 1)) := by
              have h9 := lcp_end s i (j + 1) q (by omega) HQ.out
              unfold mlen; show _ = _; omega
            have e1 : IntKind.i64.wrap ((i : Int) + q) = (i : Int) + q := IntWalk.i64_in _ (by omega)
            have hb' : decide ((i : Int) + q < s.size) = false := by simpa using hb
            go_wp2
            go_quiet (fail)
            go_wp2
            all_goals
              go_roundw
              case rel => first | exact ⟨j + 1, by omega, by omega, by go_num, by (rw [best_pos HN.out (by omega)]) <;> go_num, by (rw [best_pos HN.out (by omega)]) <;> rfl, HKK.out.drewN _⟩ | exact ⟨j + 1, by omega, by omega, by go_num, by (rw [best_neg HN.out (by omega)]) <;> rfl, by (rw [best_neg HN.out (by omega)]) <;> rfl, HKK.out.drewN _⟩
              case measure => simp [intOf]; omega
        · have HN : Hid (q = mlen s.data.toList i (j + 1)) := by
            have h9 := HQ.out
            unfold mlen; show _ = _; omega
          obtain rfl : q = 67 := by omega
          go_wp2
          go_quiet (fail)
          go_wp2
          all_goals
            go_roundw
            case rel => first | exact ⟨j + 1, by omega, by omega, by go_num, by (rw [best_pos HN.out (by omega)]) <;> go_num, by (rw [best_pos HN.out (by omega)]) <;> rfl, HKK.out.drewN _⟩ | exact ⟨j + 1, by omega, by omega, by go_num, by (rw [best_neg HN.out (by omega)]) <;> rfl, by (rw [best_neg HN.out (by omega)]) <;> rfl, HKK.out.drewN _⟩
            case measure => simp [intOf]; omega
    · have HM : Hid (mat s.data.toList i = floor4 (best s.data.toList i j)) := by
        have hj : j = min 255 i := by omega
        show _ = _; unfold mat; rw [← hj]
      generalize hbb : best s.data.toList i j = bb at hb2 HM
      clear hbb HB
      obtain ⟨d, n⟩ := bb
      by_cases h4 : n < 4
      · have HE : Hid (mat s.data.toList i = (0, 0)) := by rw [HM.out]; exact if_pos h4
        by_cases h6 : j < 255
        · have h7 : i = j := by omega
          subst h7
          go_wp2
          go_ret2
          exact ⟨by rw [HE.out]; rfl, HK.out⟩
        · obtain rfl : j = 255 := by omega
          go_wp2
          go_ret2
          exact ⟨by rw [HE.out]; rfl, HK.out⟩
      · have HE : Hid (mat s.data.toList i = (d, n)) := by rw [HM.out]; exact if_neg h4
        by_cases h6 : j < 255
        · have h7 : i = j := by omega
          subst h7
          go_wp2
          go_ret2
          exact ⟨by rw [HE.out]; rfl, HK.out⟩
        · obtain rfl : j = 255 := by omega
          go_wp2
          go_ret2
          exact ⟨by rw [HE.out]; rfl, HK.out⟩
end Cp
end Go.Proofs.Ytgfbfmgdlbdlhaa
