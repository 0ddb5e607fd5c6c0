/-
  Contracts of compression (chapter 20), part E: Decompress, the program's and the reference's.
-/
import Derived.Test.YtgfbfmgdlbdlhaaBy
import Derived.Test.YtgfbfmgdlbdlhaaCp
import Derived.Test.YtgfbfmgdlbdlhaaRd
import Derived.Test.YtgfbfmgdlbdlhaaCpA
import Derived.BigQuiet
import Derived.Deep.QuietTactic
import Derived.Outline
set_option linter.unusedVariables false
set_option maxRecDepth 100000
namespace Go.Proofs.Ytgfbfmgdlbdlhaa
open Go.RowKit
open By
namespace Cp
/-- n bytes copied from d back. -/
def copyN (l : List UInt8) (d : Nat) : Nat → List UInt8
  | 0 => l
  | n + 1 => copyN l d n ++ [(copyN l d n).getD ((copyN l d n).length - d) 0]
/-- The way back: the errno, the bytes. -/
def decF (most : Nat) : Nat → List UInt8 → List UInt8 → Nat × List UInt8
  | 0, _, out => (0, out)
  | _ + 1, [], out => (0, out)
  | f + 1, c :: t, out =>
    if c.toNat < 128 then
      if t.length < c.toNat + 1 then (2000, []) else if most < out.length + (c.toNat + 1) then (2001, []) else decF most f (t.drop (c.toNat + 1)) (out ++ t.take (c.toNat + 1))
    else if c.toNat < 192 then
      match t with
      | [] => (2000, [])
      | d :: u => if d.toNat = 0 ∨ out.length < d.toNat then (2000, []) else if most < out.length + (c.toNat - 124) then (2001, []) else decF most f u (copyN out d.toNat (c.toNat - 124))
    else (2000, [])
def dec (most : Nat) (s out : List UInt8) : Nat × List UInt8 := decF most s.length s out
theorem decF_fuel (most : Nat) : ∀ (f g : Nat) (s out : List UInt8), s.length ≤ f → s.length ≤ g → decF most f s out = decF most g s out
  | 0, 0, _, _, _, _ => rfl
  | 0, g + 1, [], _, _, _ => rfl
  | 0, g + 1, _ :: _, _, h, _ => by simp at h
  | f + 1, 0, [], _, _, _ => rfl
  | f + 1, 0, _ :: _, _, _, h => by simp at h
  | f + 1, g + 1, [], _, _, _ => rfl
  | f + 1, g + 1, c :: t, out, h1, h2 => by
    simp only [List.length_cons] at h1 h2
    unfold decF
    rw [decF_fuel most f g (t.drop (c.toNat + 1)) _ (by rw [List.length_drop]; omega) (by rw [List.length_drop]; omega)]
    match t with
    | [] => rfl
    | d :: u =>
      simp only [List.length_cons] at h1 h2
      simp only
      rw [decF_fuel most f g u _ (by omega) (by omega)]
theorem dec_nil (most : Nat) (out : List UInt8) : dec most [] out = (0, out) := rfl
theorem dec_cons (most : Nat) (c : UInt8) (t out : List UInt8) : dec most (c :: t) out =
    if c.toNat < 128 then
      if t.length < c.toNat + 1 then (2000, []) else if most < out.length + (c.toNat + 1) then (2001, []) else dec most (t.drop (c.toNat + 1)) (out ++ t.take (c.toNat + 1))
    else if c.toNat < 192 then
      match t with
      | [] => (2000, [])
      | d :: u => if d.toNat = 0 ∨ out.length < d.toNat then (2000, []) else if most < out.length + (c.toNat - 124) then (2001, []) else dec most u (copyN out d.toNat (c.toNat - 124))
    else (2000, []) := by
  unfold dec
  rw [List.length_cons]
  conv => lhs; unfold decF
  rw [decF_fuel most t.length (t.drop (c.toNat + 1)).length (t.drop (c.toNat + 1)) _ (by rw [List.length_drop]; omega) (Nat.le_refl _)]
  match t with
  | [] => rfl
  | d :: u =>
    simp only
    rw [decF_fuel most (d :: u).length u.length u _ (by simp) (Nat.le_refl _)]
theorem copyN_len (l : List UInt8) (d : Nat) : ∀ n, (copyN l d n).length = l.length + n
  | 0 => rfl
  | n + 1 => by rw [copyN, List.length_append, copyN_len l d n]; rfl
theorem copyN_step (l : List UInt8) (d k : Nat) (h : (copyN l d k).length - d < (copyN l d k).length) : copyN l d (k + 1) = copyN l d k ++ [(copyN l d k)[(copyN l d k).length - d]] := by
  rw [copyN, List.getD_eq_getElem?_getD, List.getElem?_eq_getElem h]; rfl
theorem own_slice {w : World} {base : Nat} {e : TypeId} {size n : Nat} {v : Value} {xs : List Value} (h : w.ownsRow base e size v n xs) : ∃ A cap, v = .slice A n cap ∧ n ≤ cap := by
  rcases h.2 with ⟨rfl, rfl⟩ | ⟨g, cap, cur, rfl, _, _, hc, _⟩
  · exact ⟨_, _, rfl, Nat.le_refl _⟩
  · exact ⟨_, _, rfl, hc⟩
theorem own_cell {w : World} {base : Nat} {A : Option Addr} {n cap : Nat} {l : List UInt8} (h : w.ownsRow base 5 1 (.slice A n cap) l.length (by8 l)) (j : Nat) (hj : j < l.length) : ∃ g, A = some ⟨g, 0, none⟩ ∧ w.cell? ⟨g, j, none⟩ = some (.int .u8 l[j].toNat) := by
  have h' := h
  rcases h.2 with ⟨he, h0⟩ | ⟨g, cp, cur, he, _⟩
  · omega
  · injection he with e1 e2 e3
    subst e1 e2 e3
    have := h'.cellAt j (by omega)
    rw [by8_get l j hj] at this
    exact ⟨g, rfl, this⟩
theorem own_cell' {w : World} {base : Nat} {A : Option Addr} {n cap : Nat} {l : List UInt8} (h : w.ownsRow base 5 1 (.slice A n cap) l.length (by8 l)) (j : Nat) (z : UInt8) (hz : l[j]? = some z) : ∃ g, A = some ⟨g, 0, none⟩ ∧ w.cell? ⟨g, j, none⟩ = some (.int .u8 z.toNat) := by
  obtain ⟨hj, rfl⟩ := List.getElem?_eq_some_iff.1 hz
  exact own_cell h j hj
theorem size_len' (s : ByteArray) : s.data.toList.length = s.size := by simp
theorem drop_step (s : ByteArray) (i : Nat) (h : i < s.size) : s.data.toList.drop i = s[i] :: s.data.toList.drop (i + 1) := drop_at s i h
theorem ret_dec {R R' : Nat × List UInt8} (h : R = R') : Ending.returned (.tuple #[.string ⟨R.2.toArray⟩, .int .i64 (R.1 : Int)]) = .returned (.tuple #[.string ⟨R'.2.toArray⟩, .int .i64 (R'.1 : Int)]) := by rw [h]
theorem own_drewN {w : World} {base : Nat} {e : TypeId} {size n : Nat} {v : Value} {xs : List Value} (h : w.ownsRow base e size v n xs) (k : Nat) : (w.drewN k).ownsRow base e size v n xs := by
  cases k with
  | zero => exact h
  | succ k => exact h
theorem fin_lit {s : ByteArray} {i M : Nat} {l : List UInt8} (h : i < s.size) (hx : s[i].toNat < 128) : dec M (s.data.toList.drop i) l =
    if s.size - (i + 1) < s[i].toNat + 1 then (2000, []) else if M < l.length + (s[i].toNat + 1) then (2001, []) else dec M (s.data.toList.drop (i + 1 + (s[i].toNat + 1))) (l ++ (s.extract (i + 1) (i + 1 + (s[i].toNat + 1))).data.toList) := by
  rw [drop_step s i h, dec_cons, if_pos hx, List.length_drop, size_len', List.drop_drop, Lib.extract_data, show i + 1 + (s[i].toNat + 1) - (i + 1) = s[i].toNat + 1 by omega]
theorem fin_copy {s : ByteArray} {i M : Nat} {l : List UInt8} (h : i + 1 < s.size) (hx : ¬ s[i].toNat < 128) (hy : s[i].toNat < 192) : dec M (s.data.toList.drop i) l =
    if s[i + 1].toNat = 0 ∨ l.length < s[i + 1].toNat then (2000, []) else if M < l.length + (s[i].toNat - 124) then (2001, []) else dec M (s.data.toList.drop (i + 1 + 1)) (copyN l s[i + 1].toNat (s[i].toNat - 124)) := by
  rw [drop_step s i (by omega), dec_cons, if_neg hx, if_pos hy, drop_step s (i + 1) h]
theorem fin_last {s : ByteArray} {i M : Nat} {l : List UInt8} (h : i + 1 = s.size) (hx : ¬ s[i].toNat < 128) (hy : s[i].toNat < 192) : dec M (s.data.toList.drop i) l = (2000, []) := by
  rw [drop_step s i (by omega), dec_cons, if_neg hx, if_pos hy, List.drop_of_length_le (by rw [size_len']; omega)]
theorem fin_bad {s : ByteArray} {i M : Nat} {l : List UInt8} (h : i < s.size) (hx : ¬ s[i].toNat < 192) : dec M (s.data.toList.drop i) l = (2000, []) := by
  rw [drop_step s i (by omega), dec_cons, if_neg (by omega), if_neg hx]
set_option maxHeartbeats 8000000 in
theorem dec_any (s : ByteArray) (most : Int) (W : World) (hs : (s.size : Int) ≤ 1099511627776) (hm : most ≤ 9223372036854775807) :
    Calls Try.prog 47 #[.string s, .int .i64 most] W fun e w' => e = .returned (.tuple #[.string ⟨(dec most.toNat s.data.toList []).2.toArray⟩, .int .i64 ((dec most.toNat s.data.toList []).1 : Int)]) ∧ Held W w' := by
  obtain ⟨M, hM⟩ : ∃ M : Nat, M = most.toNat := ⟨_, rfl⟩
  rw [← hM]
  by_cases h0 : 0 ≤ most
  · obtain rfl : most = (M : Int) := by omega
    clear hM
    go_enter Try.func47, Try.ntmps47
    go_wp2
    go_loopw [6, 7] (fun o i wr => ∃ (l : List UInt8) (j : Nat), i = .int .i64 j ∧ j ≤ s.size ∧ l.length ≤ 67 * j ∧ dec M (s.data.toList.drop j) l = dec M s.data.toList [] ∧ wr.ownsRow W.heap.size 5 1 o l.length (by8 l) ∧ Held W wr) (fun _ i _ => s.size - (intOf i).toNat)
    case atStart => exact ⟨[], 0, rfl, Nat.zero_le _, by simp, rfl, World.ownsRow_nil _ _ _ _, Held.refl _⟩
    case round =>
      obtain ⟨l, i, rfl, hi, hl, hR, hown, hh⟩ := hrel
      obtain ⟨A, cp, rfl, hcp⟩ := own_slice hown
      have HO := Lib.hid (And.intro hown hh)
      have HR := Lib.hid hR
      have hle := hh.le
      clear hown hh hR
      by_cases hlt : i < s.size
      · obtain ⟨x, hx⟩ : ∃ x, s[i].toNat = x := ⟨_, rfl⟩
        have hx255 : x ≤ 255 := by have := s[i].toNat_lt; omega
        by_cases hx1 : x < 128
        · have hf := fin_lit (M := M) (l := l) hlt (by omega)
          rw [HR.out, hx] at hf
          by_cases he : s.size - (i + 1) < x + 1
          · rw [if_pos he] at hf
            have HF := Lib.hid hf
            have he' : (s.size : Int) - (i + 1) < x + 1 := by omega
            clear hf he
            go_wp2
            go_ret2
            exact ⟨by rw [HF.out]; rfl, HO.out.2⟩
          · rw [if_neg he] at hf
            by_cases hm2 : M < l.length + (x + 1)
            · rw [if_pos hm2] at hf
              have HF := Lib.hid hf
              have he' : ¬ (s.size : Int) - (i + 1) < x + 1 := by omega
              have hm3 : (M : Int) < l.length + (x + 1) := by omega
              clear hf he hm2
              go_wp2
              go_ret2
              exact ⟨by rw [HF.out]; rfl, HO.out.2⟩
            · first
              | (exfalso; omega)
              | (rw [if_neg hm2] at hf
                 have HF := Lib.hid hf
                 have he' : ¬ (s.size : Int) - (i + 1) < x + 1 := by omega
                 have hm3 : ¬ (M : Int) < l.length + (x + 1) := by omega
                 clear hf he hm2
                 have hown := HO.out.1
                 go_wp2_with (at_builtin; refine app_strM _ rfl _ _ rfl W.heap.size _ l (s.extract (i + 1) (i + 1 + (x + 1))) rfl hown rfl (by simp; omega) hle ?_; intro o4 w4 hown4 hg4 hm4)
                 go_roundw
                 case rel => exact ⟨l ++ (s.extract (i + 1) (i + 1 + (x + 1))).data.toList, i + 1 + (x + 1), by go_num, by omega, by simp; omega, HF.out.symm, hown4, held_grown0 HO.out.2 HO.out.1 hg4⟩
                 case measure => (simp [intOf]) <;> omega)
        · by_cases hx2 : x < 192
          · have hx2' : (x : Int) ≤ 191 := by omega
            have hd1 : decide ((x : Int) < 128) = false := by simp; omega
            by_cases hend : i + 1 = s.size
            · have HF := Lib.hid (HR.out.symm.trans (fin_last (M := M) (l := l) hend (by omega) (by omega)))
              have hend' : (i : Int) + 1 = s.size := by omega
              clear hend
              go_wp2
              go_ret2
              exact ⟨by rw [HF.out]; rfl, HO.out.2⟩
            · have hi1 : i + 1 < s.size := by omega
              have hf := fin_copy (M := M) (l := l) hi1 (by omega) (by omega)
              obtain ⟨y, hy⟩ : ∃ y, s[i + 1].toNat = y := ⟨_, rfl⟩
              have hy255 : y ≤ 255 := by have := s[i + 1].toNat_lt; omega
              have e4 := idx s ((i : Int) + 1) (i + 1) (by omega) hi1
              rw [hy] at e4 hf
              rw [HR.out, hx] at hf
              have hend' : ¬ (i : Int) + 1 = s.size := by omega
              have hend2 : ((i : Int) + 1 == (s.size : Int)) = false := by simp; omega
              clear hend
              by_cases hy0 : y = 0 ∨ l.length < y
              · rw [if_pos hy0] at hf
                have HF := Lib.hid hf
                clear hf
                by_cases hy1 : y = 0
                · subst hy1
                  clear hy0 hy
                  go_wp2
                  go_quiet (fail)
                  go_wp2
                  go_ret2
                  exact ⟨by rw [HF.out]; rfl, HO.out.2.drewN _⟩
                · have hy2 : (l.length : Int) < y := by omega
                  have hy3 : ((y : Int) == 0) = false := by simp; omega
                  have hy4 : ¬ (y : Int) = 0 := by omega
                  clear hy0 hy1
                  go_wp2
                  go_quiet (fail)
                  go_wp2
                  go_ret2
                  exact ⟨by rw [HF.out]; rfl, HO.out.2.drewN _⟩
              · rw [if_neg hy0] at hf
                have hy1 : 1 ≤ y := by omega
                have hy2 : ¬ (l.length : Int) < y := by omega
                have hy5 : decide (l.length < y) = false := by simp; omega
                have hy3 : ((y : Int) == 0) = false := by simp; omega
                have hy4 : ¬ (y : Int) = 0 := by omega
                clear hy0
                by_cases hm2 : M < l.length + (x - 124)
                · rw [if_pos hm2] at hf
                  have HF := Lib.hid hf
                  have hm3 : (M : Int) < l.length + (x - 124) := by omega
                  clear hf hm2
                  go_wp2
                  go_quiet (fail)
                  go_wp2
                  go_ret2
                  exact ⟨by rw [HF.out]; rfl, HO.out.2.drewN _⟩
                · first
                  | (exfalso; omega)
                  | (rw [if_neg hm2] at hf
                     have HF := Lib.hid hf
                     have hm3 : ¬ (M : Int) < l.length + (x - 124) := by omega
                     clear hf hm2
                     go_wp2
                     go_quiet (fail)
                     go_wp2
                     obtain ⟨wA, hwA⟩ : ∃ wA : World, wA = wr := ⟨_, rfl⟩
                     rw [← hwA] at HO ⊢
                     clear hwA
                     go_loopw [6, 82] (fun o k w2 => ∃ q : Nat, q ≤ x - 124 ∧ k = .int .i64 q ∧ w2.ownsRow W.heap.size 5 1 o (copyN l y q).length (by8 (copyN l y q)) ∧ Held W w2) (fun _ k _ => (x - 124) - (intOf k).toNat)
                     case atStart => exact ⟨0, Nat.zero_le _, rfl, own_drewN HO.out.1 _, HO.out.2.drewN _⟩
                     case round =>
                       obtain ⟨q, hq, rfl, hown2, hh2⟩ := hrel
                       obtain ⟨A2, cp2, rfl, hcp2⟩ := own_slice hown2
                       have hcl := copyN_len l y q
                       have HO2 := Lib.hid (And.intro hown2 hh2)
                       have hle2 := hh2.le
                       clear hh2
                       by_cases hq2 : q < x - 124
                       · have hq3 : (q : Int) < x - 124 := by omega
                         obtain ⟨j, hj⟩ : ∃ j, j = (copyN l y q).length - y := ⟨_, rfl⟩
                         obtain ⟨z, hz, hzj⟩ : ∃ z, copyN l y (q + 1) = copyN l y q ++ [z] ∧ (copyN l y q)[j]? = some z :=
                           ⟨_, copyN_step l y q (by omega), by rw [hj]; exact List.getElem?_eq_getElem _⟩
                         have HS := Lib.hid hz
                         clear hz
                         generalize hL2 : copyN l y q = L2 at *
                         obtain ⟨g, hA2, hc2⟩ := own_cell' hown2 j z hzj
                         subst hA2
                         have hjl : j < L2.length := (List.getElem?_eq_some_iff.1 hzj).1
                         have hj1 : (L2.length : Int) - y = j := by omega
                         have hj2 : (j : Int) < L2.length := by omega
                         have hl2 : L2.length ≤ 140000000000000 := by omega
                         clear hzj hL2 hj hcl
                         go_wp2_with (at_builtin; refine app_u8M _ rfl _ _ rfl W.heap.size _ L2 [z] ⟨wr.heap.size, 0, none⟩ 1 1 rfl (hown2.alloc _) rfl rfl (one_cell _ _ _ rfl _) (by omega) (by simp; omega) ?_; intro o4 w4 hown4 hg4 hm4)
                         go_roundw
                         case rel => first | exact ⟨q + 1, by omega, by go_num, by rw [HS.out]; exact hown4, held_grown HO2.out.2 HO2.out.1 hg4⟩ | ((repeat apply Exists.intro); exact ⟨⟨q + 1, by omega, by go_num, by rw [HS.out]; exact hown4, held_grown HO2.out.2 HO2.out.1 hg4⟩, rfl⟩)
                         case measure => (simp [intOf]) <;> omega
                       · obtain rfl : q = x - 124 := by omega
                         have hq3 : ((x - 124 : Nat) : Int) = (x : Int) - 124 := by omega
                         have hq4 : ¬ ((x - 124 : Nat) : Int) < (x : Int) - 124 := by omega
                         clear hq2
                         go_wp2
                         go_roundw
                         case rel => exact ⟨copyN l y (x - 124), i + 1 + 1, by go_num, by omega, by omega, HF.out.symm, HO2.out.1, HO2.out.2⟩
                         case measure => (simp [intOf]) <;> omega)
          · have HF := Lib.hid (HR.out.symm.trans (fin_bad (M := M) (l := l) hlt (by omega)))
            have hx3 : ¬ (x : Int) ≤ 191 := by omega
            go_wp2
            go_ret2
            exact ⟨by rw [HF.out]; rfl, HO.out.2⟩
      · obtain rfl : i = s.size := by omega
        have HF : Hid (dec M s.data.toList [] = (0, l)) := by
          show _ = _
          rw [← HR.out, List.drop_of_length_le (by rw [size_len']; exact Nat.le_refl _)]; rfl
        have hcv := conv_own HO.out.1
        go_wp2
        go_ret2
        exact ⟨by rw [HF.out]; rfl, HO.out.2⟩
  · obtain rfl : M = 0 := by omega
    have h0' : most < 0 := by omega
    clear hM
    go_enter Try.func47, Try.ntmps47
    go_wp2
    go_loopw [6, 7] (fun o i wr => ∃ (l : List UInt8) (j : Nat), i = .int .i64 j ∧ j ≤ s.size ∧ l.length ≤ 67 * j ∧ dec 0 (s.data.toList.drop j) l = dec 0 s.data.toList [] ∧ wr.ownsRow W.heap.size 5 1 o l.length (by8 l) ∧ Held W wr) (fun _ i _ => s.size - (intOf i).toNat)
    case atStart => exact ⟨[], 0, rfl, Nat.zero_le _, by simp, rfl, World.ownsRow_nil _ _ _ _, Held.refl _⟩
    case round =>
      obtain ⟨l, i, rfl, hi, hl, hR, hown, hh⟩ := hrel
      obtain ⟨A, cp, rfl, hcp⟩ := own_slice hown
      have HO := Lib.hid (And.intro hown hh)
      have HR := Lib.hid hR
      have hle := hh.le
      clear hown hh hR
      by_cases hlt : i < s.size
      · obtain ⟨x, hx⟩ : ∃ x, s[i].toNat = x := ⟨_, rfl⟩
        have hx255 : x ≤ 255 := by have := s[i].toNat_lt; omega
        by_cases hx1 : x < 128
        · have hf := fin_lit (M := 0) (l := l) hlt (by omega)
          rw [HR.out, hx] at hf
          by_cases he : s.size - (i + 1) < x + 1
          · rw [if_pos he] at hf
            have HF := Lib.hid hf
            have he' : (s.size : Int) - (i + 1) < x + 1 := by omega
            clear hf he
            go_wp2
            go_ret2
            exact ⟨by rw [HF.out]; rfl, HO.out.2⟩
          · rw [if_neg he] at hf
            by_cases hm2 : 0 < l.length + (x + 1)
            · rw [if_pos hm2] at hf
              have HF := Lib.hid hf
              have he' : ¬ (s.size : Int) - (i + 1) < x + 1 := by omega
              have hm3 : (0 : Int) < l.length + (x + 1) := by omega
              clear hf he hm2
              go_wp2
              go_ret2
              exact ⟨by rw [HF.out]; rfl, HO.out.2⟩
            · first
              | (exfalso; omega)
              | (rw [if_neg hm2] at hf
                 have HF := Lib.hid hf
                 have he' : ¬ (s.size : Int) - (i + 1) < x + 1 := by omega
                 have hm3 : ¬ (0 : Int) < l.length + (x + 1) := by omega
                 clear hf he hm2
                 have hown := HO.out.1
                 go_wp2_with (at_builtin; refine app_strM _ rfl _ _ rfl W.heap.size _ l (s.extract (i + 1) (i + 1 + (x + 1))) rfl hown rfl (by simp; omega) hle ?_; intro o4 w4 hown4 hg4 hm4)
                 go_roundw
                 case rel => exact ⟨l ++ (s.extract (i + 1) (i + 1 + (x + 1))).data.toList, i + 1 + (x + 1), by go_num, by omega, by simp; omega, HF.out.symm, hown4, held_grown0 HO.out.2 HO.out.1 hg4⟩
                 case measure => (simp [intOf]) <;> omega)
        · by_cases hx2 : x < 192
          · have hx2' : (x : Int) ≤ 191 := by omega
            have hd1 : decide ((x : Int) < 128) = false := by simp; omega
            by_cases hend : i + 1 = s.size
            · have HF := Lib.hid (HR.out.symm.trans (fin_last (M := 0) (l := l) hend (by omega) (by omega)))
              have hend' : (i : Int) + 1 = s.size := by omega
              clear hend
              go_wp2
              go_ret2
              exact ⟨by rw [HF.out]; rfl, HO.out.2⟩
            · have hi1 : i + 1 < s.size := by omega
              have hf := fin_copy (M := 0) (l := l) hi1 (by omega) (by omega)
              obtain ⟨y, hy⟩ : ∃ y, s[i + 1].toNat = y := ⟨_, rfl⟩
              have hy255 : y ≤ 255 := by have := s[i + 1].toNat_lt; omega
              have e4 := idx s ((i : Int) + 1) (i + 1) (by omega) hi1
              rw [hy] at e4 hf
              rw [HR.out, hx] at hf
              have hend' : ¬ (i : Int) + 1 = s.size := by omega
              have hend2 : ((i : Int) + 1 == (s.size : Int)) = false := by simp; omega
              clear hend
              by_cases hy0 : y = 0 ∨ l.length < y
              · rw [if_pos hy0] at hf
                have HF := Lib.hid hf
                clear hf
                by_cases hy1 : y = 0
                · subst hy1
                  clear hy0 hy
                  go_wp2
                  go_quiet (fail)
                  go_wp2
                  go_ret2
                  exact ⟨by rw [HF.out]; rfl, HO.out.2.drewN _⟩
                · have hy2 : (l.length : Int) < y := by omega
                  have hy3 : ((y : Int) == 0) = false := by simp; omega
                  have hy4 : ¬ (y : Int) = 0 := by omega
                  clear hy0 hy1
                  go_wp2
                  go_quiet (fail)
                  go_wp2
                  go_ret2
                  exact ⟨by rw [HF.out]; rfl, HO.out.2.drewN _⟩
              · rw [if_neg hy0] at hf
                have hy1 : 1 ≤ y := by omega
                have hy2 : ¬ (l.length : Int) < y := by omega
                have hy5 : decide (l.length < y) = false := by simp; omega
                have hy3 : ((y : Int) == 0) = false := by simp; omega
                have hy4 : ¬ (y : Int) = 0 := by omega
                clear hy0
                by_cases hm2 : 0 < l.length + (x - 124)
                · rw [if_pos hm2] at hf
                  have HF := Lib.hid hf
                  have hm3 : (0 : Int) < l.length + (x - 124) := by omega
                  clear hf hm2
                  go_wp2
                  go_quiet (fail)
                  go_wp2
                  go_ret2
                  exact ⟨by rw [HF.out]; rfl, HO.out.2.drewN _⟩
                · first
                  | (exfalso; omega)
                  | (rw [if_neg hm2] at hf
                     have HF := Lib.hid hf
                     have hm3 : ¬ (0 : Int) < l.length + (x - 124) := by omega
                     clear hf hm2
                     go_wp2
                     go_quiet (fail)
                     go_wp2
                     obtain ⟨wA, hwA⟩ : ∃ wA : World, wA = wr := ⟨_, rfl⟩
                     rw [← hwA] at HO ⊢
                     clear hwA
                     go_loopw [6, 82] (fun o k w2 => ∃ q : Nat, q ≤ x - 124 ∧ k = .int .i64 q ∧ w2.ownsRow W.heap.size 5 1 o (copyN l y q).length (by8 (copyN l y q)) ∧ Held W w2) (fun _ k _ => (x - 124) - (intOf k).toNat)
                     case atStart => exact ⟨0, Nat.zero_le _, rfl, own_drewN HO.out.1 _, HO.out.2.drewN _⟩
                     case round =>
                       obtain ⟨q, hq, rfl, hown2, hh2⟩ := hrel
                       obtain ⟨A2, cp2, rfl, hcp2⟩ := own_slice hown2
                       have hcl := copyN_len l y q
                       have HO2 := Lib.hid (And.intro hown2 hh2)
                       have hle2 := hh2.le
                       clear hh2
                       by_cases hq2 : q < x - 124
                       · have hq3 : (q : Int) < x - 124 := by omega
                         obtain ⟨j, hj⟩ : ∃ j, j = (copyN l y q).length - y := ⟨_, rfl⟩
                         obtain ⟨z, hz, hzj⟩ : ∃ z, copyN l y (q + 1) = copyN l y q ++ [z] ∧ (copyN l y q)[j]? = some z :=
                           ⟨_, copyN_step l y q (by omega), by rw [hj]; exact List.getElem?_eq_getElem _⟩
                         have HS := Lib.hid hz
                         clear hz
                         generalize hL2 : copyN l y q = L2 at *
                         obtain ⟨g, hA2, hc2⟩ := own_cell' hown2 j z hzj
                         subst hA2
                         have hjl : j < L2.length := (List.getElem?_eq_some_iff.1 hzj).1
                         have hj1 : (L2.length : Int) - y = j := by omega
                         have hj2 : (j : Int) < L2.length := by omega
                         have hl2 : L2.length ≤ 140000000000000 := by omega
                         clear hzj hL2 hj hcl
                         go_wp2_with (at_builtin; refine app_u8M _ rfl _ _ rfl W.heap.size _ L2 [z] ⟨wr.heap.size, 0, none⟩ 1 1 rfl (hown2.alloc _) rfl rfl (one_cell _ _ _ rfl _) (by omega) (by simp; omega) ?_; intro o4 w4 hown4 hg4 hm4)
                         go_roundw
                         case rel => first | exact ⟨q + 1, by omega, by go_num, by rw [HS.out]; exact hown4, held_grown HO2.out.2 HO2.out.1 hg4⟩ | ((repeat apply Exists.intro); exact ⟨⟨q + 1, by omega, by go_num, by rw [HS.out]; exact hown4, held_grown HO2.out.2 HO2.out.1 hg4⟩, rfl⟩)
                         case measure => (simp [intOf]) <;> omega
                       · obtain rfl : q = x - 124 := by omega
                         have hq3 : ((x - 124 : Nat) : Int) = (x : Int) - 124 := by omega
                         have hq4 : ¬ ((x - 124 : Nat) : Int) < (x : Int) - 124 := by omega
                         clear hq2
                         go_wp2
                         go_roundw
                         case rel => exact ⟨copyN l y (x - 124), i + 1 + 1, by go_num, by omega, by omega, HF.out.symm, HO2.out.1, HO2.out.2⟩
                         case measure => (simp [intOf]) <;> omega)
          · have HF := Lib.hid (HR.out.symm.trans (fin_bad (M := 0) (l := l) hlt (by omega)))
            have hx3 : ¬ (x : Int) ≤ 191 := by omega
            go_wp2
            go_ret2
            exact ⟨by rw [HF.out]; rfl, HO.out.2⟩
      · obtain rfl : i = s.size := by omega
        have HF : Hid (dec 0 s.data.toList [] = (0, l)) := by
          show _ = _
          rw [← HR.out, List.drop_of_length_le (by rw [size_len']; exact Nat.le_refl _)]; rfl
        have hcv := conv_own HO.out.1
        go_wp2
        go_ret2
        exact ⟨by rw [HF.out]; rfl, HO.out.2⟩
set_option maxHeartbeats 8000000 in
theorem dec_ref (s : ByteArray) (most : Int) (W : World) (hs : (s.size : Int) ≤ 1099511627776) (hm : most ≤ 9223372036854775807) :
    Calls Try.prog 52 #[.string s, .int .i64 most] W fun e w' => e = .returned (.tuple #[.string ⟨(dec most.toNat s.data.toList []).2.toArray⟩, .int .i64 ((dec most.toNat s.data.toList []).1 : Int)]) ∧ Held W w' := by
  obtain ⟨M, hM⟩ : ∃ M : Nat, M = most.toNat := ⟨_, rfl⟩
  rw [← hM]
  by_cases h0 : 0 ≤ most
  · obtain rfl : most = (M : Int) := by omega
    clear hM
    go_enter Try.func52, Try.ntmps52
    go_wp2
    go_loopw [6, 7] (fun o i wr => ∃ (l : List UInt8) (j : Nat), i = .int .i64 j ∧ j ≤ s.size ∧ l.length ≤ 67 * j ∧ dec M (s.data.toList.drop j) l = dec M s.data.toList [] ∧ wr.ownsRow W.heap.size 5 1 o l.length (by8 l) ∧ Held W wr) (fun _ i _ => s.size - (intOf i).toNat)
    case atStart => exact ⟨[], 0, rfl, Nat.zero_le _, by simp, rfl, World.ownsRow_nil _ _ _ _, Held.refl _⟩
    case round =>
      obtain ⟨l, i, rfl, hi, hl, hR, hown, hh⟩ := hrel
      obtain ⟨A, cp, rfl, hcp⟩ := own_slice hown
      have HO := Lib.hid (And.intro hown hh)
      have HR := Lib.hid hR
      have hle := hh.le
      clear hown hh hR
      by_cases hlt : i < s.size
      · obtain ⟨x, hx⟩ : ∃ x, s[i].toNat = x := ⟨_, rfl⟩
        have hx255 : x ≤ 255 := by have := s[i].toNat_lt; omega
        by_cases hx1 : x < 128
        · have hf := fin_lit (M := M) (l := l) hlt (by omega)
          rw [HR.out, hx] at hf
          by_cases he : s.size - (i + 1) < x + 1
          · rw [if_pos he] at hf
            have HF := Lib.hid hf
            have he' : (s.size : Int) - i - 1 < x + 1 := by omega
            clear hf he
            go_wp2
            go_ret2
            exact ⟨by rw [HF.out]; rfl, HO.out.2⟩
          · rw [if_neg he] at hf
            by_cases hm2 : M < l.length + (x + 1)
            · rw [if_pos hm2] at hf
              have HF := Lib.hid hf
              have he' : ¬ (s.size : Int) - i - 1 < x + 1 := by omega
              have hm3 : (M : Int) < l.length + x + 1 := by omega
              clear hf he hm2
              go_wp2
              go_ret2
              exact ⟨by rw [HF.out]; rfl, HO.out.2⟩
            · first
              | (exfalso; omega)
              | (rw [if_neg hm2] at hf
                 have HF := Lib.hid hf
                 have he' : ¬ (s.size : Int) - i - 1 < x + 1 := by omega
                 have hm3 : ¬ (M : Int) < l.length + x + 1 := by omega
                 clear hf he hm2
                 have hown := HO.out.1
                 go_wp2_with (at_builtin; refine app_strM _ rfl _ _ rfl W.heap.size _ l (s.extract (i + 1) (i + 2 + x)) rfl hown rfl (by simp; omega) hle ?_; intro o4 w4 hown4 hg4 hm4)
                 go_roundw
                 case rel => exact ⟨l ++ (s.extract (i + 1) (i + 2 + x)).data.toList, i + 2 + x, by go_num, by omega, by simp; omega, by rw [HF.out, show i + 1 + (x + 1) = i + 2 + x by omega], hown4, held_grown0 HO.out.2 HO.out.1 hg4⟩
                 case measure => (simp [intOf]) <;> omega)
        · by_cases hx2 : x < 192
          · have hx2' : (x : Int) < 192 := by omega
            have hd1 : decide ((x : Int) < 128) = false := by simp; omega
            by_cases hend : i + 1 = s.size
            · have HF := Lib.hid (HR.out.symm.trans (fin_last (M := M) (l := l) hend (by omega) (by omega)))
              have hend' : (i : Int) + 1 = s.size := by omega
              clear hend
              go_wp2
              go_ret2
              exact ⟨by rw [HF.out]; rfl, HO.out.2⟩
            · have hi1 : i + 1 < s.size := by omega
              have hf := fin_copy (M := M) (l := l) hi1 (by omega) (by omega)
              obtain ⟨y, hy⟩ : ∃ y, s[i + 1].toNat = y := ⟨_, rfl⟩
              have hy255 : y ≤ 255 := by have := s[i + 1].toNat_lt; omega
              have e4 := idx s ((i : Int) + 1) (i + 1) (by omega) hi1
              rw [hy] at e4 hf
              rw [HR.out, hx] at hf
              have hend' : ¬ (i : Int) + 1 = s.size := by omega
              have hend2 : ((i : Int) + 1 == (s.size : Int)) = false := by simp; omega
              clear hend
              by_cases hy0 : y = 0 ∨ l.length < y
              · rw [if_pos hy0] at hf
                have HF := Lib.hid hf
                clear hf
                by_cases hy1 : y = 0
                · subst hy1
                  clear hy0 hy
                  go_wp2
                  go_ret2
                  exact ⟨by rw [HF.out]; rfl, HO.out.2⟩
                · have hy2 : (l.length : Int) < y := by omega
                  have hy3 : ((y : Int) == 0) = false := by simp; omega
                  have hy4 : ¬ (y : Int) = 0 := by omega
                  clear hy0 hy1
                  go_wp2
                  go_ret2
                  exact ⟨by rw [HF.out]; rfl, HO.out.2⟩
              · rw [if_neg hy0] at hf
                have hy1 : 1 ≤ y := by omega
                have hy2 : ¬ (l.length : Int) < y := by omega
                have hy5 : decide (l.length < y) = false := by simp; omega
                have hy3 : ((y : Int) == 0) = false := by simp; omega
                have hy4 : ¬ (y : Int) = 0 := by omega
                clear hy0
                by_cases hm2 : M < l.length + (x - 124)
                · rw [if_pos hm2] at hf
                  have HF := Lib.hid hf
                  have hm3 : (M : Int) < l.length + x - 124 := by omega
                  clear hf hm2
                  go_wp2
                  go_ret2
                  exact ⟨by rw [HF.out]; rfl, HO.out.2⟩
                · first
                  | (exfalso; omega)
                  | (rw [if_neg hm2] at hf
                     have HF := Lib.hid hf
                     have hm3 : ¬ (M : Int) < l.length + x - 124 := by omega
                     clear hf hm2
                     go_wp2
                     have e5 := e4
                     obtain ⟨wA, hwA⟩ : ∃ wA : World, wA = wr := ⟨_, rfl⟩
                     rw [← hwA] at HO ⊢
                     clear hwA
                     go_loopw [6, 9] (fun o k w2 => ∃ q : Nat, q ≤ x - 124 ∧ k = .int .i64 q ∧ w2.ownsRow W.heap.size 5 1 o (copyN l y q).length (by8 (copyN l y q)) ∧ Held W w2) (fun _ k _ => (x - 124) - (intOf k).toNat)
                     case atStart => exact ⟨0, Nat.zero_le _, rfl, HO.out.1, HO.out.2⟩
                     case round =>
                       obtain ⟨q, hq, rfl, hown2, hh2⟩ := hrel
                       obtain ⟨A2, cp2, rfl, hcp2⟩ := own_slice hown2
                       have hcl := copyN_len l y q
                       have HO2 := Lib.hid (And.intro hown2 hh2)
                       have hle2 := hh2.le
                       clear hh2
                       by_cases hq2 : q < x - 124
                       · have hq3 : (q : Int) < x - 124 := by omega
                         obtain ⟨j, hj⟩ : ∃ j, j = (copyN l y q).length - y := ⟨_, rfl⟩
                         obtain ⟨z, hz, hzj⟩ : ∃ z, copyN l y (q + 1) = copyN l y q ++ [z] ∧ (copyN l y q)[j]? = some z :=
                           ⟨_, copyN_step l y q (by omega), by rw [hj]; exact List.getElem?_eq_getElem _⟩
                         have HS := Lib.hid hz
                         clear hz
                         generalize hL2 : copyN l y q = L2 at *
                         obtain ⟨g, hA2, hc2⟩ := own_cell' hown2 j z hzj
                         subst hA2
                         have hjl : j < L2.length := (List.getElem?_eq_some_iff.1 hzj).1
                         have hj1 : (L2.length : Int) - y = j := by omega
                         have hj2 : (j : Int) < L2.length := by omega
                         have hl2 : L2.length ≤ 140000000000000 := by omega
                         clear hzj hL2 hj hcl
                         go_wp2_with (at_builtin; refine app_u8M _ rfl _ _ rfl W.heap.size _ L2 [z] ⟨wr.heap.size, 0, none⟩ 1 1 rfl (hown2.alloc _) rfl rfl (one_cell _ _ _ rfl _) (by omega) (by simp; omega) ?_; intro o4 w4 hown4 hg4 hm4)
                         go_roundw
                         case rel => first | exact ⟨q + 1, by omega, by go_num, by rw [HS.out]; exact hown4, held_grown HO2.out.2 HO2.out.1 hg4⟩ | ((repeat apply Exists.intro); exact ⟨⟨q + 1, by omega, by go_num, by rw [HS.out]; exact hown4, held_grown HO2.out.2 HO2.out.1 hg4⟩, rfl⟩)
                         case measure => (simp [intOf]) <;> omega
                       · obtain rfl : q = x - 124 := by omega
                         have hq3 : ((x - 124 : Nat) : Int) = (x : Int) - 124 := by omega
                         have hq4 : ¬ ((x - 124 : Nat) : Int) < (x : Int) - 124 := by omega
                         clear hq2
                         go_wp2
                         go_roundw
                         case rel => exact ⟨copyN l y (x - 124), i + 2, by go_num, by omega, by omega, HF.out.symm, HO2.out.1, HO2.out.2⟩
                         case measure => (simp [intOf]) <;> omega)
          · have HF := Lib.hid (HR.out.symm.trans (fin_bad (M := M) (l := l) hlt (by omega)))
            have hx3 : ¬ (x : Int) < 192 := by omega
            go_wp2
            go_ret2
            exact ⟨by rw [HF.out]; rfl, HO.out.2⟩
      · obtain rfl : i = s.size := by omega
        have HF : Hid (dec M s.data.toList [] = (0, l)) := by
          show _ = _
          rw [← HR.out, List.drop_of_length_le (by rw [size_len']; exact Nat.le_refl _)]; rfl
        have hcv := conv_own HO.out.1
        go_wp2
        go_ret2
        exact ⟨by rw [HF.out]; rfl, HO.out.2⟩
  · obtain rfl : M = 0 := by omega
    have h0' : most < 0 := by omega
    clear hM
    go_enter Try.func52, Try.ntmps52
    go_wp2
    go_loopw [6, 7] (fun o i wr => ∃ (l : List UInt8) (j : Nat), i = .int .i64 j ∧ j ≤ s.size ∧ l.length ≤ 67 * j ∧ dec 0 (s.data.toList.drop j) l = dec 0 s.data.toList [] ∧ wr.ownsRow W.heap.size 5 1 o l.length (by8 l) ∧ Held W wr) (fun _ i _ => s.size - (intOf i).toNat)
    case atStart => exact ⟨[], 0, rfl, Nat.zero_le _, by simp, rfl, World.ownsRow_nil _ _ _ _, Held.refl _⟩
    case round =>
      obtain ⟨l, i, rfl, hi, hl, hR, hown, hh⟩ := hrel
      obtain ⟨A, cp, rfl, hcp⟩ := own_slice hown
      have HO := Lib.hid (And.intro hown hh)
      have HR := Lib.hid hR
      have hle := hh.le
      clear hown hh hR
      by_cases hlt : i < s.size
      · obtain ⟨x, hx⟩ : ∃ x, s[i].toNat = x := ⟨_, rfl⟩
        have hx255 : x ≤ 255 := by have := s[i].toNat_lt; omega
        by_cases hx1 : x < 128
        · have hf := fin_lit (M := 0) (l := l) hlt (by omega)
          rw [HR.out, hx] at hf
          by_cases he : s.size - (i + 1) < x + 1
          · rw [if_pos he] at hf
            have HF := Lib.hid hf
            have he' : (s.size : Int) - i - 1 < x + 1 := by omega
            clear hf he
            go_wp2
            go_ret2
            exact ⟨by rw [HF.out]; rfl, HO.out.2⟩
          · rw [if_neg he] at hf
            by_cases hm2 : 0 < l.length + (x + 1)
            · rw [if_pos hm2] at hf
              have HF := Lib.hid hf
              have he' : ¬ (s.size : Int) - i - 1 < x + 1 := by omega
              have hm3 : (0 : Int) < l.length + x + 1 := by omega
              clear hf he hm2
              go_wp2
              go_ret2
              exact ⟨by rw [HF.out]; rfl, HO.out.2⟩
            · first
              | (exfalso; omega)
              | (rw [if_neg hm2] at hf
                 have HF := Lib.hid hf
                 have he' : ¬ (s.size : Int) - i - 1 < x + 1 := by omega
                 have hm3 : ¬ (0 : Int) < l.length + (x + 1) := by omega
                 clear hf he hm2
                 have hown := HO.out.1
                 go_wp2_with (at_builtin; refine app_strM _ rfl _ _ rfl W.heap.size _ l (s.extract (i + 1) (i + 2 + x)) rfl hown rfl (by simp; omega) hle ?_; intro o4 w4 hown4 hg4 hm4)
                 go_roundw
                 case rel => exact ⟨l ++ (s.extract (i + 1) (i + 2 + x)).data.toList, i + 2 + x, by go_num, by omega, by simp; omega, by rw [HF.out, show i + 1 + (x + 1) = i + 2 + x by omega], hown4, held_grown0 HO.out.2 HO.out.1 hg4⟩
                 case measure => (simp [intOf]) <;> omega)
        · by_cases hx2 : x < 192
          · have hx2' : (x : Int) < 192 := by omega
            have hd1 : decide ((x : Int) < 128) = false := by simp; omega
            by_cases hend : i + 1 = s.size
            · have HF := Lib.hid (HR.out.symm.trans (fin_last (M := 0) (l := l) hend (by omega) (by omega)))
              have hend' : (i : Int) + 1 = s.size := by omega
              clear hend
              go_wp2
              go_ret2
              exact ⟨by rw [HF.out]; rfl, HO.out.2⟩
            · have hi1 : i + 1 < s.size := by omega
              have hf := fin_copy (M := 0) (l := l) hi1 (by omega) (by omega)
              obtain ⟨y, hy⟩ : ∃ y, s[i + 1].toNat = y := ⟨_, rfl⟩
              have hy255 : y ≤ 255 := by have := s[i + 1].toNat_lt; omega
              have e4 := idx s ((i : Int) + 1) (i + 1) (by omega) hi1
              rw [hy] at e4 hf
              rw [HR.out, hx] at hf
              have hend' : ¬ (i : Int) + 1 = s.size := by omega
              have hend2 : ((i : Int) + 1 == (s.size : Int)) = false := by simp; omega
              clear hend
              by_cases hy0 : y = 0 ∨ l.length < y
              · rw [if_pos hy0] at hf
                have HF := Lib.hid hf
                clear hf
                by_cases hy1 : y = 0
                · subst hy1
                  clear hy0 hy
                  go_wp2
                  go_ret2
                  exact ⟨by rw [HF.out]; rfl, HO.out.2⟩
                · have hy2 : (l.length : Int) < y := by omega
                  have hy3 : ((y : Int) == 0) = false := by simp; omega
                  have hy4 : ¬ (y : Int) = 0 := by omega
                  clear hy0 hy1
                  go_wp2
                  go_ret2
                  exact ⟨by rw [HF.out]; rfl, HO.out.2⟩
              · rw [if_neg hy0] at hf
                have hy1 : 1 ≤ y := by omega
                have hy2 : ¬ (l.length : Int) < y := by omega
                have hy5 : decide (l.length < y) = false := by simp; omega
                have hy3 : ((y : Int) == 0) = false := by simp; omega
                have hy4 : ¬ (y : Int) = 0 := by omega
                clear hy0
                by_cases hm2 : 0 < l.length + (x - 124)
                · rw [if_pos hm2] at hf
                  have HF := Lib.hid hf
                  have hm3 : (0 : Int) < l.length + x - 124 := by omega
                  clear hf hm2
                  go_wp2
                  go_ret2
                  exact ⟨by rw [HF.out]; rfl, HO.out.2⟩
                · first
                  | (exfalso; omega)
                  | (rw [if_neg hm2] at hf
                     have HF := Lib.hid hf
                     have hm3 : ¬ (0 : Int) < l.length + (x - 124) := by omega
                     clear hf hm2
                     go_wp2
                     have e5 := e4
                     obtain ⟨wA, hwA⟩ : ∃ wA : World, wA = wr := ⟨_, rfl⟩
                     rw [← hwA] at HO ⊢
                     clear hwA
                     go_loopw [6, 9] (fun o k w2 => ∃ q : Nat, q ≤ x - 124 ∧ k = .int .i64 q ∧ w2.ownsRow W.heap.size 5 1 o (copyN l y q).length (by8 (copyN l y q)) ∧ Held W w2) (fun _ k _ => (x - 124) - (intOf k).toNat)
                     case atStart => exact ⟨0, Nat.zero_le _, rfl, HO.out.1, HO.out.2⟩
                     case round =>
                       obtain ⟨q, hq, rfl, hown2, hh2⟩ := hrel
                       obtain ⟨A2, cp2, rfl, hcp2⟩ := own_slice hown2
                       have hcl := copyN_len l y q
                       have HO2 := Lib.hid (And.intro hown2 hh2)
                       have hle2 := hh2.le
                       clear hh2
                       by_cases hq2 : q < x - 124
                       · have hq3 : (q : Int) < x - 124 := by omega
                         obtain ⟨j, hj⟩ : ∃ j, j = (copyN l y q).length - y := ⟨_, rfl⟩
                         obtain ⟨z, hz, hzj⟩ : ∃ z, copyN l y (q + 1) = copyN l y q ++ [z] ∧ (copyN l y q)[j]? = some z :=
                           ⟨_, copyN_step l y q (by omega), by rw [hj]; exact List.getElem?_eq_getElem _⟩
                         have HS := Lib.hid hz
                         clear hz
                         generalize hL2 : copyN l y q = L2 at *
                         obtain ⟨g, hA2, hc2⟩ := own_cell' hown2 j z hzj
                         subst hA2
                         have hjl : j < L2.length := (List.getElem?_eq_some_iff.1 hzj).1
                         have hj1 : (L2.length : Int) - y = j := by omega
                         have hj2 : (j : Int) < L2.length := by omega
                         have hl2 : L2.length ≤ 140000000000000 := by omega
                         clear hzj hL2 hj hcl
                         go_wp2_with (at_builtin; refine app_u8M _ rfl _ _ rfl W.heap.size _ L2 [z] ⟨wr.heap.size, 0, none⟩ 1 1 rfl (hown2.alloc _) rfl rfl (one_cell _ _ _ rfl _) (by omega) (by simp; omega) ?_; intro o4 w4 hown4 hg4 hm4)
                         go_roundw
                         case rel => first | exact ⟨q + 1, by omega, by go_num, by rw [HS.out]; exact hown4, held_grown HO2.out.2 HO2.out.1 hg4⟩ | ((repeat apply Exists.intro); exact ⟨⟨q + 1, by omega, by go_num, by rw [HS.out]; exact hown4, held_grown HO2.out.2 HO2.out.1 hg4⟩, rfl⟩)
                         case measure => (simp [intOf]) <;> omega
                       · obtain rfl : q = x - 124 := by omega
                         have hq3 : ((x - 124 : Nat) : Int) = (x : Int) - 124 := by omega
                         have hq4 : ¬ ((x - 124 : Nat) : Int) < (x : Int) - 124 := by omega
                         clear hq2
                         go_wp2
                         go_roundw
                         case rel => exact ⟨copyN l y (x - 124), i + 2, by go_num, by omega, by omega, HF.out.symm, HO2.out.1, HO2.out.2⟩
                         case measure => (simp [intOf]) <;> omega)
          · have HF := Lib.hid (HR.out.symm.trans (fin_bad (M := 0) (l := l) hlt (by omega)))
            have hx3 : ¬ (x : Int) < 192 := by omega
            go_wp2
            go_ret2
            exact ⟨by rw [HF.out]; rfl, HO.out.2⟩
      · obtain rfl : i = s.size := by omega
        have HF : Hid (dec 0 s.data.toList [] = (0, l)) := by
          show _ = _
          rw [← HR.out, List.drop_of_length_le (by rw [size_len']; exact Nat.le_refl _)]; rfl
        have hcv := conv_own HO.out.1
        go_wp2
        go_ret2
        exact ⟨by rw [HF.out]; rfl, HO.out.2⟩
end Cp
end Go.Proofs.Ytgfbfmgdlbdlhaa
