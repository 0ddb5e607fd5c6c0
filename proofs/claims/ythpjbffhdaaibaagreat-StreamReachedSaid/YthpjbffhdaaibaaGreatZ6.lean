/-
  Contracts of compression (chapter 20), part E: Decompress, the program's and the reference's.
  Plain laws of compression: the way back, the length, patterns that repeat.
  Plain laws, no program in sight: the stream of segments (chapter 24).
  The shelf's contracts of strings.Builder at this program's numbers (printed by wip/tools/mkbld.py).
-/
import Derived.Test.YthpjbffhdaaibaaGreatZ3
import Derived.Test.YthpjbffhdaaibaaGreatZ1
import Derived.Test.YthpjbffhdaaibaaGreatZ4
import Derived.BigQuiet
import Derived.Deep.QuietTactic
import Derived.Outline
import Derived.Test.YthpjbffhdaaibaaGreatZ5
import Derived.Shelf.Strings.Builder1
import Derived.Shelf.Strings.BuilderK
import Derived.Test.YthpjbffhdaaibaaGreatProg
set_option linter.unusedVariables false
set_option maxRecDepth 100000
namespace Go.Proofs.YthpjbffhdaaibaaGreat
open Go.RowKit
open By
namespace Cp
/-- n bytes copied from d back. -/
def copyN (l : List UInt8) (d : Nat) : Nat → List UInt8
  | 0 => l
  | n + 1 => copyN l d n ++ [(copyN l d n).getD ((copyN l d n).length - d) 0]
/-- The way back: the errno, the bytes. -/
def decF (most : Nat) : Nat → List UInt8 → List UInt8 → Nat × List UInt8
  | 0, _, out => (0, out)
  | _ + 1, [], out => (0, out)
  | f + 1, c :: t, out =>
    if c.toNat < 128 then
      if t.length < c.toNat + 1 then (2000, []) else if most < out.length + (c.toNat + 1) then (2001, []) else decF most f (t.drop (c.toNat + 1)) (out ++ t.take (c.toNat + 1))
    else if c.toNat < 192 then
      match t with
      | [] => (2000, [])
      | d :: u => if d.toNat = 0 ∨ out.length < d.toNat then (2000, []) else if most < out.length + (c.toNat - 124) then (2001, []) else decF most f u (copyN out d.toNat (c.toNat - 124))
    else (2000, [])
def dec (most : Nat) (s out : List UInt8) : Nat × List UInt8 := decF most s.length s out
theorem decF_fuel (most : Nat) : ∀ (f g : Nat) (s out : List UInt8), s.length ≤ f → s.length ≤ g → decF most f s out = decF most g s out
  | 0, 0, _, _, _, _ => rfl
  | 0, g + 1, [], _, _, _ => rfl
  | 0, g + 1, _ :: _, _, h, _ => by simp at h
  | f + 1, 0, [], _, _, _ => rfl
  | f + 1, 0, _ :: _, _, _, h => by simp at h
  | f + 1, g + 1, [], _, _, _ => rfl
  | f + 1, g + 1, c :: t, out, h1, h2 => by
    simp only [List.length_cons] at h1 h2
    unfold decF
    rw [decF_fuel most f g (t.drop (c.toNat + 1)) _ (by rw [List.length_drop]; omega) (by rw [List.length_drop]; omega)]
    match t with
    | [] => rfl
    | d :: u =>
      simp only [List.length_cons] at h1 h2
      simp only
      rw [decF_fuel most f g u _ (by omega) (by omega)]
theorem dec_nil (most : Nat) (out : List UInt8) : dec most [] out = (0, out) := rfl
theorem dec_cons (most : Nat) (c : UInt8) (t out : List UInt8) : dec most (c :: t) out =
    if c.toNat < 128 then
      if t.length < c.toNat + 1 then (2000, []) else if most < out.length + (c.toNat + 1) then (2001, []) else dec most (t.drop (c.toNat + 1)) (out ++ t.take (c.toNat + 1))
    else if c.toNat < 192 then
      match t with
      | [] => (2000, [])
      | d :: u => if d.toNat = 0 ∨ out.length < d.toNat then (2000, []) else if most < out.length + (c.toNat - 124) then (2001, []) else dec most u (copyN out d.toNat (c.toNat - 124))
    else (2000, []) := by
  unfold dec
  rw [List.length_cons]
  conv => lhs; unfold decF
  rw [decF_fuel most t.length (t.drop (c.toNat + 1)).length (t.drop (c.toNat + 1)) _ (by rw [List.length_drop]; omega) (Nat.le_refl _)]
  match t with
  | [] => rfl
  | d :: u =>
    simp only
    rw [decF_fuel most (d :: u).length u.length u _ (by simp) (Nat.le_refl _)]
theorem copyN_len (l : List UInt8) (d : Nat) : ∀ n, (copyN l d n).length = l.length + n
  | 0 => rfl
  | n + 1 => by rw [copyN, List.length_append, copyN_len l d n]; rfl
theorem copyN_step (l : List UInt8) (d k : Nat) (h : (copyN l d k).length - d < (copyN l d k).length) : copyN l d (k + 1) = copyN l d k ++ [(copyN l d k)[(copyN l d k).length - d]] := by
  rw [copyN, List.getD_eq_getElem?_getD, List.getElem?_eq_getElem h]; rfl
theorem own_slice {w : World} {base : Nat} {e : TypeId} {size n : Nat} {v : Value} {xs : List Value} (h : w.ownsRow base e size v n xs) : ∃ A cap, v = .slice A n cap ∧ n ≤ cap := by
  rcases h.2 with ⟨rfl, rfl⟩ | ⟨g, cap, cur, rfl, _, _, hc, _⟩
  · exact ⟨_, _, rfl, Nat.le_refl _⟩
  · exact ⟨_, _, rfl, hc⟩
theorem own_cell {w : World} {base : Nat} {A : Option Addr} {n cap : Nat} {l : List UInt8} (h : w.ownsRow base 5 1 (.slice A n cap) l.length (by8 l)) (j : Nat) (hj : j < l.length) : ∃ g, A = some ⟨g, 0, none⟩ ∧ w.cell? ⟨g, j, none⟩ = some (.int .u8 l[j].toNat) := by
  have h' := h
  rcases h.2 with ⟨he, h0⟩ | ⟨g, cp, cur, he, _⟩
  · omega
  · injection he with e1 e2 e3
    subst e1 e2 e3
    have := h'.cellAt j (by omega)
    rw [by8_get l j hj] at this
    exact ⟨g, rfl, this⟩
theorem own_cell' {w : World} {base : Nat} {A : Option Addr} {n cap : Nat} {l : List UInt8} (h : w.ownsRow base 5 1 (.slice A n cap) l.length (by8 l)) (j : Nat) (z : UInt8) (hz : l[j]? = some z) : ∃ g, A = some ⟨g, 0, none⟩ ∧ w.cell? ⟨g, j, none⟩ = some (.int .u8 z.toNat) := by
  obtain ⟨hj, rfl⟩ := List.getElem?_eq_some_iff.1 hz
  exact own_cell h j hj
theorem size_len' (s : ByteArray) : s.data.toList.length = s.size := by simp
theorem drop_step (s : ByteArray) (i : Nat) (h : i < s.size) : s.data.toList.drop i = s[i] :: s.data.toList.drop (i + 1) := drop_at s i h
theorem ret_dec {R R' : Nat × List UInt8} (h : R = R') : Ending.returned (.tuple #[.string ⟨R.2.toArray⟩, .int .i64 (R.1 : Int)]) = .returned (.tuple #[.string ⟨R'.2.toArray⟩, .int .i64 (R'.1 : Int)]) := by rw [h]
theorem own_drewN {w : World} {base : Nat} {e : TypeId} {size n : Nat} {v : Value} {xs : List Value} (h : w.ownsRow base e size v n xs) (k : Nat) : (w.drewN k).ownsRow base e size v n xs := by
  cases k with
  | zero => exact h
  | succ k => exact h
theorem fin_lit {s : ByteArray} {i M : Nat} {l : List UInt8} (h : i < s.size) (hx : s[i].toNat < 128) : dec M (s.data.toList.drop i) l =
    if s.size - (i + 1) < s[i].toNat + 1 then (2000, []) else if M < l.length + (s[i].toNat + 1) then (2001, []) else dec M (s.data.toList.drop (i + 1 + (s[i].toNat + 1))) (l ++ (s.extract (i + 1) (i + 1 + (s[i].toNat + 1))).data.toList) := by
  rw [drop_step s i h, dec_cons, if_pos hx, List.length_drop, size_len', List.drop_drop, Lib.extract_data, show i + 1 + (s[i].toNat + 1) - (i + 1) = s[i].toNat + 1 by omega]
theorem fin_copy {s : ByteArray} {i M : Nat} {l : List UInt8} (h : i + 1 < s.size) (hx : ¬ s[i].toNat < 128) (hy : s[i].toNat < 192) : dec M (s.data.toList.drop i) l =
    if s[i + 1].toNat = 0 ∨ l.length < s[i + 1].toNat then (2000, []) else if M < l.length + (s[i].toNat - 124) then (2001, []) else dec M (s.data.toList.drop (i + 1 + 1)) (copyN l s[i + 1].toNat (s[i].toNat - 124)) := by
  rw [drop_step s i (by omega), dec_cons, if_neg hx, if_pos hy, drop_step s (i + 1) h]
theorem fin_last {s : ByteArray} {i M : Nat} {l : List UInt8} (h : i + 1 = s.size) (hx : ¬ s[i].toNat < 128) (hy : s[i].toNat < 192) : dec M (s.data.toList.drop i) l = (2000, []) := by
  rw [drop_step s i (by omega), dec_cons, if_neg hx, if_pos hy, List.drop_of_length_le (by rw [size_len']; omega)]
theorem fin_bad {s : ByteArray} {i M : Nat} {l : List UInt8} (h : i < s.size) (hx : ¬ s[i].toNat < 192) : dec M (s.data.toList.drop i) l = (2000, []) := by
  rw [drop_step s i (by omega), dec_cons, if_neg (by omega), if_neg hx]
set_option maxHeartbeats 8000000 in
theorem dec_any (s : ByteArray) (most : Int) (W : World) (hs : (s.size : Int) ≤ 1099511627776) (hm : most ≤ 9223372036854775807) :
    Calls Tryz.prog 43 #[.string s, .int .i64 most] W fun e w' => e = .returned (.tuple #[.string ⟨(dec most.toNat s.data.toList []).2.toArray⟩, .int .i64 ((dec most.toNat s.data.toList []).1 : Int)]) ∧ Held W w' := by
  obtain ⟨M, hM⟩ : ∃ M : Nat, M = most.toNat := ⟨_, rfl⟩
  rw [← hM]
  by_cases h0 : 0 ≤ most
  · obtain rfl : most = (M : Int) := by omega
    clear hM
    go_enter Tryz.func43, Tryz.ntmps43
    go_wp2
    go_loopw [6, 7] (fun o i wr => ∃ (l : List UInt8) (j : Nat), i = .int .i64 j ∧ j ≤ s.size ∧ l.length ≤ 67 * j ∧ dec M (s.data.toList.drop j) l = dec M s.data.toList [] ∧ wr.ownsRow W.heap.size 5 1 o l.length (by8 l) ∧ Held W wr) (fun _ i _ => s.size - (intOf i).toNat)
    case atStart => exact ⟨[], 0, rfl, Nat.zero_le _, by simp, rfl, World.ownsRow_nil _ _ _ _, Held.refl _⟩
    case round =>
      obtain ⟨l, i, rfl, hi, hl, hR, hown, hh⟩ := hrel
      obtain ⟨A, cp, rfl, hcp⟩ := own_slice hown
      have HO := Lib.hid (And.intro hown hh)
      have HR := Lib.hid hR
      have hle := hh.le
      clear hown hh hR
      by_cases hlt : i < s.size
      · obtain ⟨x, hx⟩ : ∃ x, s[i].toNat = x := ⟨_, rfl⟩
        have hx255 : x ≤ 255 := by have := s[i].toNat_lt; omega
        by_cases hx1 : x < 128
        · have hf := fin_lit (M := M) (l := l) hlt (by omega)
          rw [HR.out, hx] at hf
          by_cases he : s.size - (i + 1) < x + 1
          · rw [if_pos he] at hf
            have HF := Lib.hid hf
            have he' : (s.size : Int) - (i + 1) < x + 1 := by omega
            clear hf he
            go_wp2
            go_ret2
            exact ⟨by rw [HF.out]; rfl, HO.out.2⟩
          · rw [if_neg he] at hf
            by_cases hm2 : M < l.length + (x + 1)
            · rw [if_pos hm2] at hf
              have HF := Lib.hid hf
              have he' : ¬ (s.size : Int) - (i + 1) < x + 1 := by omega
              have hm3 : (M : Int) < l.length + (x + 1) := by omega
              clear hf he hm2
              go_wp2
              go_ret2
              exact ⟨by rw [HF.out]; rfl, HO.out.2⟩
            · first
              | (exfalso; omega)
              | (rw [if_neg hm2] at hf
                 have HF := Lib.hid hf
                 have he' : ¬ (s.size : Int) - (i + 1) < x + 1 := by omega
                 have hm3 : ¬ (M : Int) < l.length + (x + 1) := by omega
                 clear hf he hm2
                 have hown := HO.out.1
                 go_wp2_with (at_builtin; refine app_strM _ rfl _ _ rfl W.heap.size _ l (s.extract (i + 1) (i + 1 + (x + 1))) rfl hown rfl (by simp; omega) hle ?_; intro o4 w4 hown4 hg4 hm4)
                 go_roundw
                 case rel => exact ⟨l ++ (s.extract (i + 1) (i + 1 + (x + 1))).data.toList, i + 1 + (x + 1), by go_num, by omega, by simp; omega, HF.out.symm, hown4, held_grown0 HO.out.2 HO.out.1 hg4⟩
                 case measure => (simp [intOf]) <;> omega)
        · by_cases hx2 : x < 192
          · have hx2' : (x : Int) ≤ 191 := by omega
            have hd1 : decide ((x : Int) < 128) = false := by simp; omega
            by_cases hend : i + 1 = s.size
            · have HF := Lib.hid (HR.out.symm.trans (fin_last (M := M) (l := l) hend (by omega) (by omega)))
              have hend' : (i : Int) + 1 = s.size := by omega
              clear hend
              go_wp2
              go_ret2
              exact ⟨by rw [HF.out]; rfl, HO.out.2⟩
            · have hi1 : i + 1 < s.size := by omega
              have hf := fin_copy (M := M) (l := l) hi1 (by omega) (by omega)
              obtain ⟨y, hy⟩ : ∃ y, s[i + 1].toNat = y := ⟨_, rfl⟩
              have hy255 : y ≤ 255 := by have := s[i + 1].toNat_lt; omega
              have e4 := idx s ((i : Int) + 1) (i + 1) (by omega) hi1
              rw [hy] at e4 hf
              rw [HR.out, hx] at hf
              have hend' : ¬ (i : Int) + 1 = s.size := by omega
              have hend2 : ((i : Int) + 1 == (s.size : Int)) = false := by simp; omega
              clear hend
              by_cases hy0 : y = 0 ∨ l.length < y
              · rw [if_pos hy0] at hf
                have HF := Lib.hid hf
                clear hf
                by_cases hy1 : y = 0
                · subst hy1
                  clear hy0 hy
                  go_wp2
                  go_quiet (fail)
                  go_wp2
                  go_ret2
                  exact ⟨by rw [HF.out]; rfl, HO.out.2.drewN _⟩
                · have hy2 : (l.length : Int) < y := by omega
                  have hy3 : ((y : Int) == 0) = false := by simp; omega
                  have hy4 : ¬ (y : Int) = 0 := by omega
                  clear hy0 hy1
                  go_wp2
                  go_quiet (fail)
                  go_wp2
                  go_ret2
                  exact ⟨by rw [HF.out]; rfl, HO.out.2.drewN _⟩
              · rw [if_neg hy0] at hf
                have hy1 : 1 ≤ y := by omega
                have hy2 : ¬ (l.length : Int) < y := by omega
                have hy5 : decide (l.length < y) = false := by simp; omega
                have hy3 : ((y : Int) == 0) = false := by simp; omega
                have hy4 : ¬ (y : Int) = 0 := by omega
                clear hy0
                by_cases hm2 : M < l.length + (x - 124)
                · rw [if_pos hm2] at hf
                  have HF := Lib.hid hf
                  have hm3 : (M : Int) < l.length + (x - 124) := by omega
                  clear hf hm2
                  go_wp2
                  go_quiet (fail)
                  go_wp2
                  go_ret2
                  exact ⟨by rw [HF.out]; rfl, HO.out.2.drewN _⟩
                · first
                  | (exfalso; omega)
                  | (rw [if_neg hm2] at hf
                     have HF := Lib.hid hf
                     have hm3 : ¬ (M : Int) < l.length + (x - 124) := by omega
                     clear hf hm2
                     go_wp2
                     go_quiet (fail)
                     go_wp2
                     obtain ⟨wA, hwA⟩ : ∃ wA : World, wA = wr := ⟨_, rfl⟩
                     rw [← hwA] at HO ⊢
                     clear hwA
                     go_loopw [6, 82] (fun o k w2 => ∃ q : Nat, q ≤ x - 124 ∧ k = .int .i64 q ∧ w2.ownsRow W.heap.size 5 1 o (copyN l y q).length (by8 (copyN l y q)) ∧ Held W w2) (fun _ k _ => (x - 124) - (intOf k).toNat)
                     case atStart => exact ⟨0, Nat.zero_le _, rfl, own_drewN HO.out.1 _, HO.out.2.drewN _⟩
                     case round =>
                       obtain ⟨q, hq, rfl, hown2, hh2⟩ := hrel
                       obtain ⟨A2, cp2, rfl, hcp2⟩ := own_slice hown2
                       have hcl := copyN_len l y q
                       have HO2 := Lib.hid (And.intro hown2 hh2)
                       have hle2 := hh2.le
                       clear hh2
                       by_cases hq2 : q < x - 124
                       · have hq3 : (q : Int) < x - 124 := by omega
                         obtain ⟨j, hj⟩ : ∃ j, j = (copyN l y q).length - y := ⟨_, rfl⟩
                         obtain ⟨z, hz, hzj⟩ : ∃ z, copyN l y (q + 1) = copyN l y q ++ [z] ∧ (copyN l y q)[j]? = some z :=
                           ⟨_, copyN_step l y q (by omega), by rw [hj]; exact List.getElem?_eq_getElem _⟩
                         have HS := Lib.hid hz
                         clear hz
                         generalize hL2 : copyN l y q = L2 at *
                         obtain ⟨g, hA2, hc2⟩ := own_cell' hown2 j z hzj
                         subst hA2
                         have hjl : j < L2.length := (List.getElem?_eq_some_iff.1 hzj).1
                         have hj1 : (L2.length : Int) - y = j := by omega
                         have hj2 : (j : Int) < L2.length := by omega
                         have hl2 : L2.length ≤ 140000000000000 := by omega
                         clear hzj hL2 hj hcl
                         go_wp2_with (at_builtin; refine app_u8M _ rfl _ _ rfl W.heap.size _ L2 [z] ⟨wr.heap.size, 0, none⟩ 1 1 rfl (hown2.alloc _) rfl rfl (one_cell _ _ _ rfl _) (by omega) (by simp; omega) ?_; intro o4 w4 hown4 hg4 hm4)
                         go_roundw
                         case rel => first | exact ⟨q + 1, by omega, by go_num, by rw [HS.out]; exact hown4, held_grown HO2.out.2 HO2.out.1 hg4⟩ | ((repeat apply Exists.intro); exact ⟨⟨q + 1, by omega, by go_num, by rw [HS.out]; exact hown4, held_grown HO2.out.2 HO2.out.1 hg4⟩, rfl⟩)
                         case measure => (simp [intOf]) <;> omega
                       · obtain rfl : q = x - 124 := by omega
                         have hq3 : ((x - 124 : Nat) : Int) = (x : Int) - 124 := by omega
                         have hq4 : ¬ ((x - 124 : Nat) : Int) < (x : Int) - 124 := by omega
                         clear hq2
                         go_wp2
                         go_roundw
                         case rel => exact ⟨copyN l y (x - 124), i + 1 + 1, by go_num, by omega, by omega, HF.out.symm, HO2.out.1, HO2.out.2⟩
                         case measure => (simp [intOf]) <;> omega)
          · have HF := Lib.hid (HR.out.symm.trans (fin_bad (M := M) (l := l) hlt (by omega)))
            have hx3 : ¬ (x : Int) ≤ 191 := by omega
            go_wp2
            go_ret2
            exact ⟨by rw [HF.out]; rfl, HO.out.2⟩
      · obtain rfl : i = s.size := by omega
        have HF : Hid (dec M s.data.toList [] = (0, l)) := by
          show _ = _
          rw [← HR.out, List.drop_of_length_le (by rw [size_len']; exact Nat.le_refl _)]; rfl
        have hcv := conv_own HO.out.1
        go_wp2
        go_ret2
        exact ⟨by rw [HF.out]; rfl, HO.out.2⟩
  · obtain rfl : M = 0 := by omega
    have h0' : most < 0 := by omega
    clear hM
    go_enter Tryz.func43, Tryz.ntmps43
    go_wp2
    go_loopw [6, 7] (fun o i wr => ∃ (l : List UInt8) (j : Nat), i = .int .i64 j ∧ j ≤ s.size ∧ l.length ≤ 67 * j ∧ dec 0 (s.data.toList.drop j) l = dec 0 s.data.toList [] ∧ wr.ownsRow W.heap.size 5 1 o l.length (by8 l) ∧ Held W wr) (fun _ i _ => s.size - (intOf i).toNat)
    case atStart => exact ⟨[], 0, rfl, Nat.zero_le _, by simp, rfl, World.ownsRow_nil _ _ _ _, Held.refl _⟩
    case round =>
      obtain ⟨l, i, rfl, hi, hl, hR, hown, hh⟩ := hrel
      obtain ⟨A, cp, rfl, hcp⟩ := own_slice hown
      have HO := Lib.hid (And.intro hown hh)
      have HR := Lib.hid hR
      have hle := hh.le
      clear hown hh hR
      by_cases hlt : i < s.size
      · obtain ⟨x, hx⟩ : ∃ x, s[i].toNat = x := ⟨_, rfl⟩
        have hx255 : x ≤ 255 := by have := s[i].toNat_lt; omega
        by_cases hx1 : x < 128
        · have hf := fin_lit (M := 0) (l := l) hlt (by omega)
          rw [HR.out, hx] at hf
          by_cases he : s.size - (i + 1) < x + 1
          · rw [if_pos he] at hf
            have HF := Lib.hid hf
            have he' : (s.size : Int) - (i + 1) < x + 1 := by omega
            clear hf he
            go_wp2
            go_ret2
            exact ⟨by rw [HF.out]; rfl, HO.out.2⟩
          · rw [if_neg he] at hf
            by_cases hm2 : 0 < l.length + (x + 1)
            · rw [if_pos hm2] at hf
              have HF := Lib.hid hf
              have he' : ¬ (s.size : Int) - (i + 1) < x + 1 := by omega
              have hm3 : (0 : Int) < l.length + (x + 1) := by omega
              clear hf he hm2
              go_wp2
              go_ret2
              exact ⟨by rw [HF.out]; rfl, HO.out.2⟩
            · first
              | (exfalso; omega)
              | (rw [if_neg hm2] at hf
                 have HF := Lib.hid hf
                 have he' : ¬ (s.size : Int) - (i + 1) < x + 1 := by omega
                 have hm3 : ¬ (0 : Int) < l.length + (x + 1) := by omega
                 clear hf he hm2
                 have hown := HO.out.1
                 go_wp2_with (at_builtin; refine app_strM _ rfl _ _ rfl W.heap.size _ l (s.extract (i + 1) (i + 1 + (x + 1))) rfl hown rfl (by simp; omega) hle ?_; intro o4 w4 hown4 hg4 hm4)
                 go_roundw
                 case rel => exact ⟨l ++ (s.extract (i + 1) (i + 1 + (x + 1))).data.toList, i + 1 + (x + 1), by go_num, by omega, by simp; omega, HF.out.symm, hown4, held_grown0 HO.out.2 HO.out.1 hg4⟩
                 case measure => (simp [intOf]) <;> omega)
        · by_cases hx2 : x < 192
          · have hx2' : (x : Int) ≤ 191 := by omega
            have hd1 : decide ((x : Int) < 128) = false := by simp; omega
            by_cases hend : i + 1 = s.size
            · have HF := Lib.hid (HR.out.symm.trans (fin_last (M := 0) (l := l) hend (by omega) (by omega)))
              have hend' : (i : Int) + 1 = s.size := by omega
              clear hend
              go_wp2
              go_ret2
              exact ⟨by rw [HF.out]; rfl, HO.out.2⟩
            · have hi1 : i + 1 < s.size := by omega
              have hf := fin_copy (M := 0) (l := l) hi1 (by omega) (by omega)
              obtain ⟨y, hy⟩ : ∃ y, s[i + 1].toNat = y := ⟨_, rfl⟩
              have hy255 : y ≤ 255 := by have := s[i + 1].toNat_lt; omega
              have e4 := idx s ((i : Int) + 1) (i + 1) (by omega) hi1
              rw [hy] at e4 hf
              rw [HR.out, hx] at hf
              have hend' : ¬ (i : Int) + 1 = s.size := by omega
              have hend2 : ((i : Int) + 1 == (s.size : Int)) = false := by simp; omega
              clear hend
              by_cases hy0 : y = 0 ∨ l.length < y
              · rw [if_pos hy0] at hf
                have HF := Lib.hid hf
                clear hf
                by_cases hy1 : y = 0
                · subst hy1
                  clear hy0 hy
                  go_wp2
                  go_quiet (fail)
                  go_wp2
                  go_ret2
                  exact ⟨by rw [HF.out]; rfl, HO.out.2.drewN _⟩
                · have hy2 : (l.length : Int) < y := by omega
                  have hy3 : ((y : Int) == 0) = false := by simp; omega
                  have hy4 : ¬ (y : Int) = 0 := by omega
                  clear hy0 hy1
                  go_wp2
                  go_quiet (fail)
                  go_wp2
                  go_ret2
                  exact ⟨by rw [HF.out]; rfl, HO.out.2.drewN _⟩
              · rw [if_neg hy0] at hf
                have hy1 : 1 ≤ y := by omega
                have hy2 : ¬ (l.length : Int) < y := by omega
                have hy5 : decide (l.length < y) = false := by simp; omega
                have hy3 : ((y : Int) == 0) = false := by simp; omega
                have hy4 : ¬ (y : Int) = 0 := by omega
                clear hy0
                by_cases hm2 : 0 < l.length + (x - 124)
                · rw [if_pos hm2] at hf
                  have HF := Lib.hid hf
                  have hm3 : (0 : Int) < l.length + (x - 124) := by omega
                  clear hf hm2
                  go_wp2
                  go_quiet (fail)
                  go_wp2
                  go_ret2
                  exact ⟨by rw [HF.out]; rfl, HO.out.2.drewN _⟩
                · first
                  | (exfalso; omega)
                  | (rw [if_neg hm2] at hf
                     have HF := Lib.hid hf
                     have hm3 : ¬ (0 : Int) < l.length + (x - 124) := by omega
                     clear hf hm2
                     go_wp2
                     go_quiet (fail)
                     go_wp2
                     obtain ⟨wA, hwA⟩ : ∃ wA : World, wA = wr := ⟨_, rfl⟩
                     rw [← hwA] at HO ⊢
                     clear hwA
                     go_loopw [6, 82] (fun o k w2 => ∃ q : Nat, q ≤ x - 124 ∧ k = .int .i64 q ∧ w2.ownsRow W.heap.size 5 1 o (copyN l y q).length (by8 (copyN l y q)) ∧ Held W w2) (fun _ k _ => (x - 124) - (intOf k).toNat)
                     case atStart => exact ⟨0, Nat.zero_le _, rfl, own_drewN HO.out.1 _, HO.out.2.drewN _⟩
                     case round =>
                       obtain ⟨q, hq, rfl, hown2, hh2⟩ := hrel
                       obtain ⟨A2, cp2, rfl, hcp2⟩ := own_slice hown2
                       have hcl := copyN_len l y q
                       have HO2 := Lib.hid (And.intro hown2 hh2)
                       have hle2 := hh2.le
                       clear hh2
                       by_cases hq2 : q < x - 124
                       · have hq3 : (q : Int) < x - 124 := by omega
                         obtain ⟨j, hj⟩ : ∃ j, j = (copyN l y q).length - y := ⟨_, rfl⟩
                         obtain ⟨z, hz, hzj⟩ : ∃ z, copyN l y (q + 1) = copyN l y q ++ [z] ∧ (copyN l y q)[j]? = some z :=
                           ⟨_, copyN_step l y q (by omega), by rw [hj]; exact List.getElem?_eq_getElem _⟩
                         have HS := Lib.hid hz
                         clear hz
                         generalize hL2 : copyN l y q = L2 at *
                         obtain ⟨g, hA2, hc2⟩ := own_cell' hown2 j z hzj
                         subst hA2
                         have hjl : j < L2.length := (List.getElem?_eq_some_iff.1 hzj).1
                         have hj1 : (L2.length : Int) - y = j := by omega
                         have hj2 : (j : Int) < L2.length := by omega
                         have hl2 : L2.length ≤ 140000000000000 := by omega
                         clear hzj hL2 hj hcl
                         go_wp2_with (at_builtin; refine app_u8M _ rfl _ _ rfl W.heap.size _ L2 [z] ⟨wr.heap.size, 0, none⟩ 1 1 rfl (hown2.alloc _) rfl rfl (one_cell _ _ _ rfl _) (by omega) (by simp; omega) ?_; intro o4 w4 hown4 hg4 hm4)
                         go_roundw
                         case rel => first | exact ⟨q + 1, by omega, by go_num, by rw [HS.out]; exact hown4, held_grown HO2.out.2 HO2.out.1 hg4⟩ | ((repeat apply Exists.intro); exact ⟨⟨q + 1, by omega, by go_num, by rw [HS.out]; exact hown4, held_grown HO2.out.2 HO2.out.1 hg4⟩, rfl⟩)
                         case measure => (simp [intOf]) <;> omega
                       · obtain rfl : q = x - 124 := by omega
                         have hq3 : ((x - 124 : Nat) : Int) = (x : Int) - 124 := by omega
                         have hq4 : ¬ ((x - 124 : Nat) : Int) < (x : Int) - 124 := by omega
                         clear hq2
                         go_wp2
                         go_roundw
                         case rel => exact ⟨copyN l y (x - 124), i + 1 + 1, by go_num, by omega, by omega, HF.out.symm, HO2.out.1, HO2.out.2⟩
                         case measure => (simp [intOf]) <;> omega)
          · have HF := Lib.hid (HR.out.symm.trans (fin_bad (M := 0) (l := l) hlt (by omega)))
            have hx3 : ¬ (x : Int) ≤ 191 := by omega
            go_wp2
            go_ret2
            exact ⟨by rw [HF.out]; rfl, HO.out.2⟩
      · obtain rfl : i = s.size := by omega
        have HF : Hid (dec 0 s.data.toList [] = (0, l)) := by
          show _ = _
          rw [← HR.out, List.drop_of_length_le (by rw [size_len']; exact Nat.le_refl _)]; rfl
        have hcv := conv_own HO.out.1
        go_wp2
        go_ret2
        exact ⟨by rw [HF.out]; rfl, HO.out.2⟩
set_option maxHeartbeats 8000000 in
theorem dec_ref (s : ByteArray) (most : Int) (W : World) (hs : (s.size : Int) ≤ 1099511627776) (hm : most ≤ 9223372036854775807) :
    Calls Tryz.prog 47 #[.string s, .int .i64 most] W fun e w' => e = .returned (.tuple #[.string ⟨(dec most.toNat s.data.toList []).2.toArray⟩, .int .i64 ((dec most.toNat s.data.toList []).1 : Int)]) ∧ Held W w' := by
  obtain ⟨M, hM⟩ : ∃ M : Nat, M = most.toNat := ⟨_, rfl⟩
  rw [← hM]
  by_cases h0 : 0 ≤ most
  · obtain rfl : most = (M : Int) := by omega
    clear hM
    go_enter Tryz.func47, Tryz.ntmps47
    go_wp2
    go_loopw [6, 7] (fun o i wr => ∃ (l : List UInt8) (j : Nat), i = .int .i64 j ∧ j ≤ s.size ∧ l.length ≤ 67 * j ∧ dec M (s.data.toList.drop j) l = dec M s.data.toList [] ∧ wr.ownsRow W.heap.size 5 1 o l.length (by8 l) ∧ Held W wr) (fun _ i _ => s.size - (intOf i).toNat)
    case atStart => exact ⟨[], 0, rfl, Nat.zero_le _, by simp, rfl, World.ownsRow_nil _ _ _ _, Held.refl _⟩
    case round =>
      obtain ⟨l, i, rfl, hi, hl, hR, hown, hh⟩ := hrel
      obtain ⟨A, cp, rfl, hcp⟩ := own_slice hown
      have HO := Lib.hid (And.intro hown hh)
      have HR := Lib.hid hR
      have hle := hh.le
      clear hown hh hR
      by_cases hlt : i < s.size
      · obtain ⟨x, hx⟩ : ∃ x, s[i].toNat = x := ⟨_, rfl⟩
        have hx255 : x ≤ 255 := by have := s[i].toNat_lt; omega
        by_cases hx1 : x < 128
        · have hf := fin_lit (M := M) (l := l) hlt (by omega)
          rw [HR.out, hx] at hf
          by_cases he : s.size - (i + 1) < x + 1
          · rw [if_pos he] at hf
            have HF := Lib.hid hf
            have he' : (s.size : Int) - i - 1 < x + 1 := by omega
            clear hf he
            go_wp2
            go_ret2
            exact ⟨by rw [HF.out]; rfl, HO.out.2⟩
          · rw [if_neg he] at hf
            by_cases hm2 : M < l.length + (x + 1)
            · rw [if_pos hm2] at hf
              have HF := Lib.hid hf
              have he' : ¬ (s.size : Int) - i - 1 < x + 1 := by omega
              have hm3 : (M : Int) < l.length + x + 1 := by omega
              clear hf he hm2
              go_wp2
              go_ret2
              exact ⟨by rw [HF.out]; rfl, HO.out.2⟩
            · first
              | (exfalso; omega)
              | (rw [if_neg hm2] at hf
                 have HF := Lib.hid hf
                 have he' : ¬ (s.size : Int) - i - 1 < x + 1 := by omega
                 have hm3 : ¬ (M : Int) < l.length + x + 1 := by omega
                 clear hf he hm2
                 have hown := HO.out.1
                 go_wp2_with (at_builtin; refine app_strM _ rfl _ _ rfl W.heap.size _ l (s.extract (i + 1) (i + 2 + x)) rfl hown rfl (by simp; omega) hle ?_; intro o4 w4 hown4 hg4 hm4)
                 go_roundw
                 case rel => exact ⟨l ++ (s.extract (i + 1) (i + 2 + x)).data.toList, i + 2 + x, by go_num, by omega, by simp; omega, by rw [HF.out, show i + 1 + (x + 1) = i + 2 + x by omega], hown4, held_grown0 HO.out.2 HO.out.1 hg4⟩
                 case measure => (simp [intOf]) <;> omega)
        · by_cases hx2 : x < 192
          · have hx2' : (x : Int) < 192 := by omega
            have hd1 : decide ((x : Int) < 128) = false := by simp; omega
            by_cases hend : i + 1 = s.size
            · have HF := Lib.hid (HR.out.symm.trans (fin_last (M := M) (l := l) hend (by omega) (by omega)))
              have hend' : (i : Int) + 1 = s.size := by omega
              clear hend
              go_wp2
              go_ret2
              exact ⟨by rw [HF.out]; rfl, HO.out.2⟩
            · have hi1 : i + 1 < s.size := by omega
              have hf := fin_copy (M := M) (l := l) hi1 (by omega) (by omega)
              obtain ⟨y, hy⟩ : ∃ y, s[i + 1].toNat = y := ⟨_, rfl⟩
              have hy255 : y ≤ 255 := by have := s[i + 1].toNat_lt; omega
              have e4 := idx s ((i : Int) + 1) (i + 1) (by omega) hi1
              rw [hy] at e4 hf
              rw [HR.out, hx] at hf
              have hend' : ¬ (i : Int) + 1 = s.size := by omega
              have hend2 : ((i : Int) + 1 == (s.size : Int)) = false := by simp; omega
              clear hend
              by_cases hy0 : y = 0 ∨ l.length < y
              · rw [if_pos hy0] at hf
                have HF := Lib.hid hf
                clear hf
                by_cases hy1 : y = 0
                · subst hy1
                  clear hy0 hy
                  go_wp2
                  go_ret2
                  exact ⟨by rw [HF.out]; rfl, HO.out.2⟩
                · have hy2 : (l.length : Int) < y := by omega
                  have hy3 : ((y : Int) == 0) = false := by simp; omega
                  have hy4 : ¬ (y : Int) = 0 := by omega
                  clear hy0 hy1
                  go_wp2
                  go_ret2
                  exact ⟨by rw [HF.out]; rfl, HO.out.2⟩
              · rw [if_neg hy0] at hf
                have hy1 : 1 ≤ y := by omega
                have hy2 : ¬ (l.length : Int) < y := by omega
                have hy5 : decide (l.length < y) = false := by simp; omega
                have hy3 : ((y : Int) == 0) = false := by simp; omega
                have hy4 : ¬ (y : Int) = 0 := by omega
                clear hy0
                by_cases hm2 : M < l.length + (x - 124)
                · rw [if_pos hm2] at hf
                  have HF := Lib.hid hf
                  have hm3 : (M : Int) < l.length + x - 124 := by omega
                  clear hf hm2
                  go_wp2
                  go_ret2
                  exact ⟨by rw [HF.out]; rfl, HO.out.2⟩
                · first
                  | (exfalso; omega)
                  | (rw [if_neg hm2] at hf
                     have HF := Lib.hid hf
                     have hm3 : ¬ (M : Int) < l.length + x - 124 := by omega
                     clear hf hm2
                     go_wp2
                     have e5 := e4
                     obtain ⟨wA, hwA⟩ : ∃ wA : World, wA = wr := ⟨_, rfl⟩
                     rw [← hwA] at HO ⊢
                     clear hwA
                     go_loopw [6, 9] (fun o k w2 => ∃ q : Nat, q ≤ x - 124 ∧ k = .int .i64 q ∧ w2.ownsRow W.heap.size 5 1 o (copyN l y q).length (by8 (copyN l y q)) ∧ Held W w2) (fun _ k _ => (x - 124) - (intOf k).toNat)
                     case atStart => exact ⟨0, Nat.zero_le _, rfl, HO.out.1, HO.out.2⟩
                     case round =>
                       obtain ⟨q, hq, rfl, hown2, hh2⟩ := hrel
                       obtain ⟨A2, cp2, rfl, hcp2⟩ := own_slice hown2
                       have hcl := copyN_len l y q
                       have HO2 := Lib.hid (And.intro hown2 hh2)
                       have hle2 := hh2.le
                       clear hh2
                       by_cases hq2 : q < x - 124
                       · have hq3 : (q : Int) < x - 124 := by omega
                         obtain ⟨j, hj⟩ : ∃ j, j = (copyN l y q).length - y := ⟨_, rfl⟩
                         obtain ⟨z, hz, hzj⟩ : ∃ z, copyN l y (q + 1) = copyN l y q ++ [z] ∧ (copyN l y q)[j]? = some z :=
                           ⟨_, copyN_step l y q (by omega), by rw [hj]; exact List.getElem?_eq_getElem _⟩
                         have HS := Lib.hid hz
                         clear hz
                         generalize hL2 : copyN l y q = L2 at *
                         obtain ⟨g, hA2, hc2⟩ := own_cell' hown2 j z hzj
                         subst hA2
                         have hjl : j < L2.length := (List.getElem?_eq_some_iff.1 hzj).1
                         have hj1 : (L2.length : Int) - y = j := by omega
                         have hj2 : (j : Int) < L2.length := by omega
                         have hl2 : L2.length ≤ 140000000000000 := by omega
                         clear hzj hL2 hj hcl
                         go_wp2_with (at_builtin; refine app_u8M _ rfl _ _ rfl W.heap.size _ L2 [z] ⟨wr.heap.size, 0, none⟩ 1 1 rfl (hown2.alloc _) rfl rfl (one_cell _ _ _ rfl _) (by omega) (by simp; omega) ?_; intro o4 w4 hown4 hg4 hm4)
                         go_roundw
                         case rel => first | exact ⟨q + 1, by omega, by go_num, by rw [HS.out]; exact hown4, held_grown HO2.out.2 HO2.out.1 hg4⟩ | ((repeat apply Exists.intro); exact ⟨⟨q + 1, by omega, by go_num, by rw [HS.out]; exact hown4, held_grown HO2.out.2 HO2.out.1 hg4⟩, rfl⟩)
                         case measure => (simp [intOf]) <;> omega
                       · obtain rfl : q = x - 124 := by omega
                         have hq3 : ((x - 124 : Nat) : Int) = (x : Int) - 124 := by omega
                         have hq4 : ¬ ((x - 124 : Nat) : Int) < (x : Int) - 124 := by omega
                         clear hq2
                         go_wp2
                         go_roundw
                         case rel => exact ⟨copyN l y (x - 124), i + 2, by go_num, by omega, by omega, HF.out.symm, HO2.out.1, HO2.out.2⟩
                         case measure => (simp [intOf]) <;> omega)
          · have HF := Lib.hid (HR.out.symm.trans (fin_bad (M := M) (l := l) hlt (by omega)))
            have hx3 : ¬ (x : Int) < 192 := by omega
            go_wp2
            go_ret2
            exact ⟨by rw [HF.out]; rfl, HO.out.2⟩
      · obtain rfl : i = s.size := by omega
        have HF : Hid (dec M s.data.toList [] = (0, l)) := by
          show _ = _
          rw [← HR.out, List.drop_of_length_le (by rw [size_len']; exact Nat.le_refl _)]; rfl
        have hcv := conv_own HO.out.1
        go_wp2
        go_ret2
        exact ⟨by rw [HF.out]; rfl, HO.out.2⟩
  · obtain rfl : M = 0 := by omega
    have h0' : most < 0 := by omega
    clear hM
    go_enter Tryz.func47, Tryz.ntmps47
    go_wp2
    go_loopw [6, 7] (fun o i wr => ∃ (l : List UInt8) (j : Nat), i = .int .i64 j ∧ j ≤ s.size ∧ l.length ≤ 67 * j ∧ dec 0 (s.data.toList.drop j) l = dec 0 s.data.toList [] ∧ wr.ownsRow W.heap.size 5 1 o l.length (by8 l) ∧ Held W wr) (fun _ i _ => s.size - (intOf i).toNat)
    case atStart => exact ⟨[], 0, rfl, Nat.zero_le _, by simp, rfl, World.ownsRow_nil _ _ _ _, Held.refl _⟩
    case round =>
      obtain ⟨l, i, rfl, hi, hl, hR, hown, hh⟩ := hrel
      obtain ⟨A, cp, rfl, hcp⟩ := own_slice hown
      have HO := Lib.hid (And.intro hown hh)
      have HR := Lib.hid hR
      have hle := hh.le
      clear hown hh hR
      by_cases hlt : i < s.size
      · obtain ⟨x, hx⟩ : ∃ x, s[i].toNat = x := ⟨_, rfl⟩
        have hx255 : x ≤ 255 := by have := s[i].toNat_lt; omega
        by_cases hx1 : x < 128
        · have hf := fin_lit (M := 0) (l := l) hlt (by omega)
          rw [HR.out, hx] at hf
          by_cases he : s.size - (i + 1) < x + 1
          · rw [if_pos he] at hf
            have HF := Lib.hid hf
            have he' : (s.size : Int) - i - 1 < x + 1 := by omega
            clear hf he
            go_wp2
            go_ret2
            exact ⟨by rw [HF.out]; rfl, HO.out.2⟩
          · rw [if_neg he] at hf
            by_cases hm2 : 0 < l.length + (x + 1)
            · rw [if_pos hm2] at hf
              have HF := Lib.hid hf
              have he' : ¬ (s.size : Int) - i - 1 < x + 1 := by omega
              have hm3 : (0 : Int) < l.length + x + 1 := by omega
              clear hf he hm2
              go_wp2
              go_ret2
              exact ⟨by rw [HF.out]; rfl, HO.out.2⟩
            · first
              | (exfalso; omega)
              | (rw [if_neg hm2] at hf
                 have HF := Lib.hid hf
                 have he' : ¬ (s.size : Int) - i - 1 < x + 1 := by omega
                 have hm3 : ¬ (0 : Int) < l.length + (x + 1) := by omega
                 clear hf he hm2
                 have hown := HO.out.1
                 go_wp2_with (at_builtin; refine app_strM _ rfl _ _ rfl W.heap.size _ l (s.extract (i + 1) (i + 2 + x)) rfl hown rfl (by simp; omega) hle ?_; intro o4 w4 hown4 hg4 hm4)
                 go_roundw
                 case rel => exact ⟨l ++ (s.extract (i + 1) (i + 2 + x)).data.toList, i + 2 + x, by go_num, by omega, by simp; omega, by rw [HF.out, show i + 1 + (x + 1) = i + 2 + x by omega], hown4, held_grown0 HO.out.2 HO.out.1 hg4⟩
                 case measure => (simp [intOf]) <;> omega)
        · by_cases hx2 : x < 192
          · have hx2' : (x : Int) < 192 := by omega
            have hd1 : decide ((x : Int) < 128) = false := by simp; omega
            by_cases hend : i + 1 = s.size
            · have HF := Lib.hid (HR.out.symm.trans (fin_last (M := 0) (l := l) hend (by omega) (by omega)))
              have hend' : (i : Int) + 1 = s.size := by omega
              clear hend
              go_wp2
              go_ret2
              exact ⟨by rw [HF.out]; rfl, HO.out.2⟩
            · have hi1 : i + 1 < s.size := by omega
              have hf := fin_copy (M := 0) (l := l) hi1 (by omega) (by omega)
              obtain ⟨y, hy⟩ : ∃ y, s[i + 1].toNat = y := ⟨_, rfl⟩
              have hy255 : y ≤ 255 := by have := s[i + 1].toNat_lt; omega
              have e4 := idx s ((i : Int) + 1) (i + 1) (by omega) hi1
              rw [hy] at e4 hf
              rw [HR.out, hx] at hf
              have hend' : ¬ (i : Int) + 1 = s.size := by omega
              have hend2 : ((i : Int) + 1 == (s.size : Int)) = false := by simp; omega
              clear hend
              by_cases hy0 : y = 0 ∨ l.length < y
              · rw [if_pos hy0] at hf
                have HF := Lib.hid hf
                clear hf
                by_cases hy1 : y = 0
                · subst hy1
                  clear hy0 hy
                  go_wp2
                  go_ret2
                  exact ⟨by rw [HF.out]; rfl, HO.out.2⟩
                · have hy2 : (l.length : Int) < y := by omega
                  have hy3 : ((y : Int) == 0) = false := by simp; omega
                  have hy4 : ¬ (y : Int) = 0 := by omega
                  clear hy0 hy1
                  go_wp2
                  go_ret2
                  exact ⟨by rw [HF.out]; rfl, HO.out.2⟩
              · rw [if_neg hy0] at hf
                have hy1 : 1 ≤ y := by omega
                have hy2 : ¬ (l.length : Int) < y := by omega
                have hy5 : decide (l.length < y) = false := by simp; omega
                have hy3 : ((y : Int) == 0) = false := by simp; omega
                have hy4 : ¬ (y : Int) = 0 := by omega
                clear hy0
                by_cases hm2 : 0 < l.length + (x - 124)
                · rw [if_pos hm2] at hf
                  have HF := Lib.hid hf
                  have hm3 : (0 : Int) < l.length + x - 124 := by omega
                  clear hf hm2
                  go_wp2
                  go_ret2
                  exact ⟨by rw [HF.out]; rfl, HO.out.2⟩
                · first
                  | (exfalso; omega)
                  | (rw [if_neg hm2] at hf
                     have HF := Lib.hid hf
                     have hm3 : ¬ (0 : Int) < l.length + (x - 124) := by omega
                     clear hf hm2
                     go_wp2
                     have e5 := e4
                     obtain ⟨wA, hwA⟩ : ∃ wA : World, wA = wr := ⟨_, rfl⟩
                     rw [← hwA] at HO ⊢
                     clear hwA
                     go_loopw [6, 9] (fun o k w2 => ∃ q : Nat, q ≤ x - 124 ∧ k = .int .i64 q ∧ w2.ownsRow W.heap.size 5 1 o (copyN l y q).length (by8 (copyN l y q)) ∧ Held W w2) (fun _ k _ => (x - 124) - (intOf k).toNat)
                     case atStart => exact ⟨0, Nat.zero_le _, rfl, HO.out.1, HO.out.2⟩
                     case round =>
                       obtain ⟨q, hq, rfl, hown2, hh2⟩ := hrel
                       obtain ⟨A2, cp2, rfl, hcp2⟩ := own_slice hown2
                       have hcl := copyN_len l y q
                       have HO2 := Lib.hid (And.intro hown2 hh2)
                       have hle2 := hh2.le
                       clear hh2
                       by_cases hq2 : q < x - 124
                       · have hq3 : (q : Int) < x - 124 := by omega
                         obtain ⟨j, hj⟩ : ∃ j, j = (copyN l y q).length - y := ⟨_, rfl⟩
                         obtain ⟨z, hz, hzj⟩ : ∃ z, copyN l y (q + 1) = copyN l y q ++ [z] ∧ (copyN l y q)[j]? = some z :=
                           ⟨_, copyN_step l y q (by omega), by rw [hj]; exact List.getElem?_eq_getElem _⟩
                         have HS := Lib.hid hz
                         clear hz
                         generalize hL2 : copyN l y q = L2 at *
                         obtain ⟨g, hA2, hc2⟩ := own_cell' hown2 j z hzj
                         subst hA2
                         have hjl : j < L2.length := (List.getElem?_eq_some_iff.1 hzj).1
                         have hj1 : (L2.length : Int) - y = j := by omega
                         have hj2 : (j : Int) < L2.length := by omega
                         have hl2 : L2.length ≤ 140000000000000 := by omega
                         clear hzj hL2 hj hcl
                         go_wp2_with (at_builtin; refine app_u8M _ rfl _ _ rfl W.heap.size _ L2 [z] ⟨wr.heap.size, 0, none⟩ 1 1 rfl (hown2.alloc _) rfl rfl (one_cell _ _ _ rfl _) (by omega) (by simp; omega) ?_; intro o4 w4 hown4 hg4 hm4)
                         go_roundw
                         case rel => first | exact ⟨q + 1, by omega, by go_num, by rw [HS.out]; exact hown4, held_grown HO2.out.2 HO2.out.1 hg4⟩ | ((repeat apply Exists.intro); exact ⟨⟨q + 1, by omega, by go_num, by rw [HS.out]; exact hown4, held_grown HO2.out.2 HO2.out.1 hg4⟩, rfl⟩)
                         case measure => (simp [intOf]) <;> omega
                       · obtain rfl : q = x - 124 := by omega
                         have hq3 : ((x - 124 : Nat) : Int) = (x : Int) - 124 := by omega
                         have hq4 : ¬ ((x - 124 : Nat) : Int) < (x : Int) - 124 := by omega
                         clear hq2
                         go_wp2
                         go_roundw
                         case rel => exact ⟨copyN l y (x - 124), i + 2, by go_num, by omega, by omega, HF.out.symm, HO2.out.1, HO2.out.2⟩
                         case measure => (simp [intOf]) <;> omega)
          · have HF := Lib.hid (HR.out.symm.trans (fin_bad (M := 0) (l := l) hlt (by omega)))
            have hx3 : ¬ (x : Int) < 192 := by omega
            go_wp2
            go_ret2
            exact ⟨by rw [HF.out]; rfl, HO.out.2⟩
      · obtain rfl : i = s.size := by omega
        have HF : Hid (dec 0 s.data.toList [] = (0, l)) := by
          show _ = _
          rw [← HR.out, List.drop_of_length_le (by rw [size_len']; exact Nat.le_refl _)]; rfl
        have hcv := conv_own HO.out.1
        go_wp2
        go_ret2
        exact ⟨by rw [HF.out]; rfl, HO.out.2⟩
end Cp
end Go.Proofs.YthpjbffhdaaibaaGreat

set_option linter.unusedVariables false
namespace Go.Proofs.YthpjbffhdaaibaaGreat
namespace Cp
theorem dec_lits (most : Nat) : ∀ (k : Nat) (l r out : List UInt8), l.length ≤ k → (out.length ≤ most) → dec most (lits l ++ r) out = if out.length + l.length ≤ most then dec most r (out ++ l) else (2001, [])
  | 0, [], r, out, _, h => by rw [lits_nil, List.nil_append, if_pos (by simpa using h), List.append_nil]
  | 0, _ :: _, _, _, h, _ => by simp at h
  | k + 1, l, r, out, hk, h => by
    by_cases h0 : l.length = 0
    · rw [List.eq_nil_of_length_eq_zero h0, lits_nil, List.nil_append, if_pos (by simpa using h), List.append_nil]
    · rw [lits_step (by omega)]
      obtain ⟨n, hn⟩ : ∃ n, n = min 128 l.length := ⟨_, rfl⟩
      rw [← hn, List.cons_append, dec_cons]
      have hc : (UInt8.ofNat (n - 1)).toNat = n - 1 := by simp [UInt8.toNat_ofNat']; omega
      have hlen : ((l.take n ++ lits (l.drop n)) ++ r).length = n + ((lits (l.drop n)).length + r.length) := by
        simp only [List.length_append, List.length_take]; omega
      rw [hc, if_pos (by omega), if_neg (by omega), show n - 1 + 1 = n by omega]
      have e1 : ((l.take n ++ lits (l.drop n)) ++ r).drop n = lits (l.drop n) ++ r := by
        rw [List.append_assoc, List.drop_append_of_le_length (by rw [List.length_take]; omega), List.drop_of_length_le (by rw [List.length_take]; omega), List.nil_append]
      have e2 : ((l.take n ++ lits (l.drop n)) ++ r).take n = l.take n := by
        rw [List.append_assoc, List.take_append_of_le_length (by rw [List.length_take]; omega), List.take_take, Nat.min_self]
      rw [e1, e2]
      by_cases hm : most < out.length + n
      · rw [if_pos hm, if_neg (by omega)]
      · rw [if_neg hm, dec_lits most k (l.drop n) r (out ++ l.take n) (by rw [List.length_drop]; omega) (by rw [List.length_append, List.length_take]; omega)]
        rw [List.length_append, List.length_take, List.length_drop, List.append_assoc, List.take_append_drop]
        by_cases ht : out.length + l.length ≤ most
        · rw [if_pos ht, if_pos (by omega)]
        · rw [if_neg ht, if_neg (by omega)]
theorem lcp_at : ∀ (n : Nat) (a b : List UInt8), n ≤ lcp a b → ∀ k, k < n → ∃ c, a[k]? = some c ∧ b[k]? = some c := by
  intro n a b h k hk
  exact (lcp_next (a := a) (b := b) (n := k) (by omega)).1 (by omega)
theorem copyN_take (s : List UInt8) (i d : Nat) (hd : 1 ≤ d) (hdi : d ≤ i) : ∀ n, i + n ≤ s.length → n ≤ lcp (s.drop i) (s.drop (i - d)) → copyN (s.take i) d n = s.take (i + n)
  | 0, _, _ => rfl
  | n + 1, h1, h2 => by
    rw [copyN, copyN_take s i d hd hdi n (by omega) (by omega)]
    obtain ⟨c, hc1, hc2⟩ := lcp_at (n + 1) _ _ h2 n (by omega)
    rw [List.getElem?_drop] at hc1 hc2
    have hl : (s.take (i + n)).length = i + n := by rw [List.length_take]; omega
    rw [hl, show i + (n + 1) = (i + n) + 1 by omega, List.take_add_one, hc1]
    congr 1
    rw [List.getD_eq_getElem?_getD, List.getElem?_take, if_pos (by omega), show i + n - d = i - d + n by omega, hc2]
    rfl
theorem dec_comp (most : Nat) (s : List UInt8) : ∀ (k i st : Nat), s.length - i ≤ k → st ≤ i → i ≤ s.length → st ≤ most → dec most (comp s i st) (s.take st) = if s.length ≤ most then (0, s) else (2001, []) := by
  have fin : ∀ i st : Nat, s.length ≤ i → st ≤ i → i ≤ s.length → st ≤ most → dec most (comp s i st) (s.take st) = if s.length ≤ most then (0, s) else (2001, []) := by
    intro i st hi hst hi2 hm
    have hl : (s.take st).length = st := by rw [List.length_take]; omega
    rw [comp_end hi, ← List.append_nil (lits (s.drop st)), dec_lits most _ _ _ _ (Nat.le_refl _) (by rw [hl]; exact hm), hl, List.length_drop, dec_nil, List.take_append_drop]
    by_cases h : s.length ≤ most
    · rw [if_pos h, if_pos (by omega)]
    · rw [if_neg h, if_neg (by omega)]
  intro k
  induction k with
  | zero => exact fun i st hk hst hi hm => fin i st (by omega) hst hi hm
  | succ k ih =>
    intro i st hk hst hi hm
    by_cases hil : s.length ≤ i
    · exact fin i st hil hst hi hm
    · by_cases hmt : (mat s i).2 = 0
      · rw [comp_skip (by omega) hmt]
        exact ih (i + 1) st (by omega) (by omega) (by omega) hm
      · rw [comp_match (by omega) hmt]
        have hp := mat_pos hmt
        have hl : (s.take st).length = st := by rw [List.length_take]; omega
        have hlt : ((s.drop st).take (i - st)).length = i - st := by rw [List.length_take, List.length_drop]; omega
        rw [dec_lits most _ _ _ _ (Nat.le_refl _) (by rw [hl]; exact hm), hl, hlt]
        have et : s.take st ++ (s.drop st).take (i - st) = s.take i := by
          rw [← List.take_add, show st + (i - st) = i by omega]
        rw [et]
        by_cases him : st + (i - st) ≤ most
        · rw [if_pos him, dec_cons]
          have hli : (s.take i).length = i := by rw [List.length_take]; omega
          have hc : (UInt8.ofNat (124 + (mat s i).2)).toNat = 124 + (mat s i).2 := by simp [UInt8.toNat_ofNat']; omega
          have hd : (UInt8.ofNat (mat s i).1).toNat = (mat s i).1 := by simp [UInt8.toNat_ofNat']; omega
          rw [hc, if_neg (by omega), if_pos (by omega)]
          simp only
          rw [hd, hli, if_neg (by omega), show 124 + (mat s i).2 - 124 = (mat s i).2 by omega]
          have hlc : (mat s i).2 ≤ lcp (s.drop i) (s.drop (i - (mat s i).1)) := by
            have := hp.2.2.2.2.2.2
            unfold mlen at this; omega
          rw [copyN_take s i _ hp.2.2.2.1 hp.2.2.2.2.2.1 _ (by omega) hlc]
          by_cases hin : most < i + (mat s i).2
          · rw [if_pos hin, if_neg (by omega)]
          · rw [if_neg hin]
            exact ih (i + (mat s i).2) (i + (mat s i).2) (by omega) (Nat.le_refl _) (by omega) (by omega)
        · rw [if_neg him, if_neg (by omega)]
/-- What is compressed comes back, within the least limit that permits it. -/
theorem back (most : Nat) (s : List UInt8) : dec most (compress s) [] = if s.length ≤ most then (0, s) else (2001, []) := by
  have := dec_comp most s s.length 0 0 (by omega) (Nat.le_refl _) (Nat.zero_le _) (Nat.zero_le _)
  exact this
theorem comp_len (s : List UInt8) : ∀ (k i st : Nat), s.length - i ≤ k → st ≤ i → i ≤ s.length → (comp s i st).length ≤ (s.length - st) + (s.length - st + 127) / 128 := by
  have fin : ∀ i st : Nat, s.length ≤ i → st ≤ i → (comp s i st).length ≤ (s.length - st) + (s.length - st + 127) / 128 := by
    intro i st hi hst
    rw [comp_end hi, lits_len _ _ (Nat.le_refl _), List.length_drop]
    exact Nat.le_refl _
  intro k
  induction k with
  | zero => exact fun i st hk hst hi => fin i st (by omega) hst
  | succ k ih =>
    intro i st hk hst hi
    by_cases hil : s.length ≤ i
    · exact fin i st hil hst
    · by_cases hmt : (mat s i).2 = 0
      · rw [comp_skip (by omega) hmt]
        exact ih (i + 1) st (by omega) (by omega) (by omega)
      · rw [comp_match (by omega) hmt]
        have hp := mat_pos hmt
        have h2 := ih (i + (mat s i).2) (i + (mat s i).2) (by omega) (Nat.le_refl _) (by omega)
        rw [List.length_append, lits_len _ _ (Nat.le_refl _), List.length_take, List.length_drop, List.length_cons, List.length_cons]
        omega
theorem compress_len (s : List UInt8) : (compress s).length ≤ s.length + (s.length + 127) / 128 := comp_len s s.length 0 0 (by omega) (Nat.le_refl _) (Nat.zero_le _)
/-! ### a pattern that repeats -/
theorem per_lcp : ∀ (a b : List UInt8), (∀ k, k < a.length → a[k]? = b[k]?) → lcp a b = a.length
  | [], b, _ => by simp [lcp]
  | x :: a, [], h => by have := h 0 (by simp); simp at this
  | x :: a, y :: b, h => by
    have h0 := h 0 (by simp)
    simp at h0
    subst h0
    unfold lcp
    rw [if_pos rfl, per_lcp a b (fun k hk => by have := h (k + 1) (by simpa using hk); simpa using this)]
    rfl
/-- Each byte from p on is the one p places before. -/
def Per (s : List UInt8) (p : Nat) : Prop := ∀ k, p ≤ k → k < s.length → s[k]? = s[k - p]?
theorem per_mat {s : List UInt8} {p i : Nat} (hp : Per s p) (h1 : 1 ≤ p) (h2 : p ≤ 255) (hi : p ≤ i) (h4 : 4 ≤ s.length - i) : (mat s i).2 = min 67 (s.length - i) := by
  have hl : lcp (s.drop i) (s.drop (i - p)) = s.length - i := by
    rw [per_lcp _ _ (fun k hk => ?_), List.length_drop]
    rw [List.length_drop] at hk
    rw [List.getElem?_drop, List.getElem?_drop, hp (i + k) (by omega) (by omega)]
    congr 1; omega
  have hm : mlen s i p = min 67 (s.length - i) := by unfold mlen; rw [hl]
  have hb := best_max s i (min 255 i) p h1 (by omega)
  have hs := best_spec s i (min 255 i)
  unfold mat floor4
  rw [if_neg (by omega)]
  omega
theorem per_rest {s : List UInt8} {p : Nat} (hp : Per s p) (h1 : 1 ≤ p) (h2 : p ≤ 255) : ∀ (k i st : Nat), s.length - i ≤ k → st ≤ i → i ≤ s.length → p ≤ i → i - st ≤ 100 → (comp s i st).length ≤ (if st < i then i - st + 1 else 0) + 2 * ((s.length - i) / 67) + 4 := by
  have fin : ∀ i st : Nat, s.length ≤ i → st ≤ i → i ≤ s.length → i - st ≤ 104 → (comp s i st).length ≤ (if st < i then i - st + 1 else 0) := by
    intro i st hi hst hi2 h100
    rw [comp_end hi, lits_len _ _ (Nat.le_refl _), List.length_drop]
    split <;> omega
  intro k
  induction k with
  | zero =>
    intro i st hk hst hi hpi h100
    have := fin i st (by omega) hst hi (by omega)
    omega
  | succ k ih =>
    intro i st hk hst hi hpi h100
    by_cases h4 : 4 ≤ s.length - i
    · have hm := per_mat hp h1 h2 hpi h4
      rw [comp_match (by omega) (by omega)]
      have h3 := ih (i + (mat s i).2) (i + (mat s i).2) (by omega) (Nat.le_refl _) (by omega) (by omega) (by omega)
      rw [if_neg (by omega)] at h3
      rw [List.length_append, lits_len _ _ (Nat.le_refl _), List.length_take, List.length_drop, List.length_cons, List.length_cons]
      by_cases h67 : s.length - i ≤ 67
      · have hlast : (comp s (i + (mat s i).2) (i + (mat s i).2)).length = 0 := by
          have := fin (i + (mat s i).2) (i + (mat s i).2) (by omega) (Nat.le_refl _) (by omega) (by omega)
          rw [if_neg (by omega)] at this; omega
        split <;> omega
      · split <;> omega
    · -- fewer than four bytes are left: all literal
      have all : ∀ (j i : Nat), s.length - i ≤ j → i ≤ s.length → ¬ 4 ≤ s.length - i → comp s i st = lits (s.drop st) := by
        intro j
        induction j with
        | zero => exact fun i hj hi _ => comp_end (by omega)
        | succ j ihj =>
          intro i hj hi h4
          by_cases hil : s.length ≤ i
          · exact comp_end hil
          · have hz : (mat s i).2 = 0 := by
              rcases mat_spec s i with h | h
              · rw [h]
              · omega
            rw [comp_skip (by omega) hz]
            exact ihj (i + 1) (by omega) (by omega) (by omega)
      rw [all _ i (Nat.le_refl _) hi h4, lits_len _ _ (Nat.le_refl _), List.length_drop]
      split <;> omega
theorem per_head {s : List UInt8} {p : Nat} (hp : Per s p) (h1 : 1 ≤ p) (h2 : p ≤ 20) (h4 : 4 * p ≤ s.length) : ∀ (k i st : Nat), p - i ≤ k → st ≤ i → i ≤ p → (comp s i st).length ≤ 2 * (s.length / 67) + 4 + (p - st) + 4
  | 0, i, st, hk, hst, hi => by
    have := per_rest hp h1 (by omega) s.length i st (by omega) hst (by omega) (by omega) (by omega)
    have h5 := Nat.div_le_div_right (c := 67) (show s.length - i ≤ s.length by omega)
    split at this <;> omega
  | k + 1, i, st, hk, hst, hi => by
    by_cases hip : p ≤ i
    · have := per_rest hp h1 (by omega) s.length i st (by omega) hst (by omega) (by omega) (by omega)
      have h5 := Nat.div_le_div_right (c := 67) (show s.length - i ≤ s.length by omega)
      split at this <;> omega
    · by_cases hmt : (mat s i).2 = 0
      · rw [comp_skip (by omega) hmt]
        exact per_head hp h1 h2 h4 k (i + 1) st (by omega) (by omega) (by omega)
      · rw [comp_match (by omega) hmt]
        have hq := mat_pos hmt
        rw [List.length_append, lits_len _ _ (Nat.le_refl _), List.length_take, List.length_drop, List.length_cons, List.length_cons]
        by_cases hin : i + (mat s i).2 ≤ p
        · have h3 := per_head hp h1 h2 h4 k (i + (mat s i).2) (i + (mat s i).2) (by omega) (Nat.le_refl _) hin
          omega
        · have h3 := per_rest hp h1 (by omega) s.length (i + (mat s i).2) (i + (mat s i).2) (by omega) (Nat.le_refl _) (by omega) (by omega) (by omega)
          rw [if_neg (by omega)] at h3
          have h5 := Nat.div_le_div_right (c := 67) (show s.length - (i + (mat s i).2) ≤ s.length by omega)
          omega
theorem runs {s : List UInt8} {p : Nat} (hp : Per s p) (h1 : 1 ≤ p) (h2 : p ≤ 20) (h4 : 4 * p ≤ s.length) : (compress s).length ≤ 2 * p + 2 + 2 * (s.length / 67 + 2) := by
  by_cases hp1 : p = 1
  · subst hp1
    have hz : (mat s 0).2 = 0 := by
      rcases mat_spec s 0 with h | h
      · rw [h]
      · omega
    unfold compress
    rw [comp_skip (by omega) hz]
    show (comp s 1 0).length ≤ _
    have := per_rest hp h1 (by omega) s.length 1 0 (by omega) (by omega) (by omega) (by omega) (by omega)
    have h5 := Nat.div_le_div_right (c := 67) (show s.length - 1 ≤ s.length by omega)
    rw [if_pos (by omega)] at this
    omega
  · have := per_head hp h1 h2 h4 p 0 0 (by omega) (Nat.le_refl _) (by omega)
    unfold compress
    omega
/-- A pattern, many times. -/
def reps (p : List UInt8) : Nat → List UInt8
  | 0 => []
  | n + 1 => reps p n ++ p
theorem reps_len (p : List UInt8) : ∀ n, (reps p n).length = n * p.length
  | 0 => by simp [reps]
  | n + 1 => by rw [reps, List.length_append, reps_len p n, Nat.succ_mul]
theorem reps_head (p : List UInt8) : ∀ n, reps p (n + 1) = p ++ reps p n
  | 0 => by simp [reps]
  | n + 1 => by
    show reps p (n + 1) ++ p = p ++ (reps p n ++ p)
    rw [reps_head p n, List.append_assoc]
theorem reps_per (p : List UInt8) (n : Nat) (h : 1 ≤ p.length) : Per (reps p n) p.length := by
  intro k hk hl
  cases n with
  | zero => simp [reps] at hl
  | succ n =>
    rw [reps_len] at hl
    have e1 : (reps p (n + 1))[k]? = (reps p n)[k - p.length]? := by
      rw [reps_head, List.getElem?_append_right hk]
    have e2 : (reps p (n + 1))[k - p.length]? = (reps p n)[k - p.length]? := by
      rw [reps, List.getElem?_append_left]
      rw [reps_len]
      rw [Nat.succ_mul] at hl; omega
    rw [e1, e2]
end Cp
end Go.Proofs.YthpjbffhdaaibaaGreat

set_option linter.unusedVariables false
namespace Go.Proofs.YthpjbffhdaaibaaGreat.St
open Enc Uv Lg
/-- A segment. -/
structure Seg where
  f : Nat
  kn : Nat
  es : List Ent
def late (es : List Ent) (kn : Nat) : Bool := es.any fun e => decide (kn < e.t)
/-- The entries, encoded, before compression. -/
def logOf (g : Seg) : List UInt8 × Int := if (decide (g.kn < g.f) || late g.es g.kn) = true then ([], 2400) else encode g.es g.f
def bodyOf (g : Seg) (r : List UInt8 × Int) : List UInt8 × Int := if r.2 = 0 then (put g.f ++ put g.kn ++ Cp.compress r.1, 0) else ([], r.2)
def body (g : Seg) : List UInt8 × Int := bodyOf g (logOf g)
def noSeg : Seg := ⟨0, 0, []⟩
def unlog (f kn : Nat) (p : List Ent × Int) : Seg × Int := if p.2 ≠ 0 then (noSeg, p.2) else if late p.1 kn = true then (noSeg, 2400) else (⟨f, kn, p.1⟩, 0)
noncomputable def unpack (f kn : Nat) (d : Nat × List UInt8) : Seg × Int := if d.1 ≠ 0 then (noSeg, d.1) else unlog f kn (decL d.2 f)
noncomputable def unbody2 (f : Nat) (t : List UInt8) : Seg × Int := if (!uvB t || decide (uvX t < f)) = true then (noSeg, 2400) else unpack f (uvX t) (Cp.dec 65536 (t.drop (uvN t)) [])
noncomputable def unbody (s : List UInt8) : Seg × Int := if uvB s = false then (noSeg, 2400) else unbody2 (uvX s) (s.drop (uvN s))
def segOk (g : Seg) : Bool := decide ((logOf g).2 = 0)
structure Snd where
  b : Nat
  t : Nat
  kn : Nat
  q : List Seg
/-- The segments follow each other; where they end. -/
def chain : Nat → List Seg → Option Nat
  | a, [] => some a
  | a, g :: l => if (decide (g.f = a) && segOk g) = true then chain g.kn l else none
def sendQ (S : Snd) : Bool := match S.q with
  | [] => decide (S.kn ≤ S.t)
  | g :: _ => decide (S.kn ≤ g.f) && (chain g.f S.q == some S.t)
def sending (S : Snd) : Bool := decide (1 ≤ S.b) && decide (S.b ≤ 4611686018427387904) && decide (S.q.length ≤ 8) && sendQ S
structure Er where
  s : Nat
  g : Seg
structure Rcv where
  n : Nat
  kn : Nat
  e : List Er
def asc (n : Nat) : Nat → List Er → Bool
  | _, [] => true
  | a, x :: l => decide (a < x.s) && decide (x.s < n + 8) && segOk x.g && asc n x.s l
def receiving (R : Rcv) : Bool := decide (1 ≤ R.n) && decide (R.n ≤ 4611686018427387904) && decide (R.e.length ≤ 7) && asc R.n R.n R.e
def push (S : Snd) (g : Seg) : Snd × Int := if (decide (g.f ≠ S.t) || !sending S) = true then (S, 2400) else if (logOf g).2 ≠ 0 then (S, (logOf g).2) else if 8 ≤ S.q.length then (S, 2401) else (⟨S.b, g.kn, S.kn, S.q ++ [g]⟩, 0)
def dataP (n : Nat) (g : Seg) : List UInt8 := packed n (68 :: (body g).1)
def ackP (n kn : Nat) : List UInt8 := packed n (65 :: put kn)
def packs : Nat → List Seg → List (List UInt8)
  | _, [] => []
  | b, g :: l => dataP b g :: packs (b + 1) l
def packets (S : Snd) : List (List UInt8) := if sending S = true then packs S.b S.q else []
def opened1 (r : Nat × List UInt8 × Int) (m : UInt8) : Nat × List UInt8 × Bool := if r.2.2 ≠ 0 then (0, [], false) else match r.2.1 with
  | [] => (0, [], false)
  | c :: t => if c = m then (r.1, t, true) else (0, [], false)
def opened (p : List UInt8) (m : UInt8) : Nat × List UInt8 × Bool := opened1 (opens p) m
def ackAt (S : Snd) (n : Nat) : Option Nat := (S.q[n - S.b - 1]?).map Seg.kn
def acked1 (S : Snd) (o : Nat × List UInt8 × Bool) : Snd × Bool :=
  if (!o.2.2 || !sending S) = true then (S, false)
  else if (!uvB o.2.1 || decide (uvN o.2.1 ≠ o.2.1.length)) = true then (S, false)
  else if (decide (o.1 ≤ S.b) || decide (S.q.length < o.1 - S.b)) = true then (S, false)
  else if ackAt S o.1 ≠ some (uvX o.2.1) then (S, false)
  else (⟨o.1, S.t, uvX o.2.1, S.q.drop (o.1 - S.b)⟩, true)
def acked (S : Snd) (p : List UInt8) : Snd × Bool := acked1 S (opened p 65)
/-- How many came before. -/
def before (n : Nat) (l : List Er) : Nat := (l.takeWhile fun x => decide (x.s < n)).length
def ins (x : Er) (l : List Er) : List Er := l.take (before x.s l) ++ x :: l.drop (before x.s l)
def drain : Nat → Nat → List Er → Rcv × List Seg
  | n, kn, [] => (⟨n, kn, []⟩, [])
  | n, kn, x :: l => if x.s = n then (if x.g.f = kn then ((drain (n + 1) x.g.kn l).1, x.g :: (drain (n + 1) x.g.kn l).2) else (⟨n, kn, l⟩, [])) else (⟨n, kn, x :: l⟩, [])
def has (n : Nat) (l : List Er) : Bool := l.any fun x => decide (x.s = n)
def take3 (R : Rcv) (n : Nat) (u : Seg × Int) : Rcv × List Seg × Bool :=
  if u.2 ≠ 0 then (R, [], false) else if (decide (n < R.n) || has n R.e) = true then (R, [], true)
  else ((drain R.n R.kn (ins ⟨n, u.1⟩ R.e)).1, (drain R.n R.kn (ins ⟨n, u.1⟩ R.e)).2, true)
noncomputable def take1 (R : Rcv) (o : Nat × List UInt8 × Bool) : Rcv × List Seg × Bool :=
  if (!o.2.2 || !receiving R || decide (R.n + 8 ≤ o.1)) = true then (R, [], false) else take3 R o.1 (unbody o.2.1)
noncomputable def take (R : Rcv) (p : List UInt8) : Rcv × List Seg × Bool := take1 R (opened p 68)
def reply (R : Rcv) : List UInt8 := if receiving R = true then ackP R.n R.kn else []
end Go.Proofs.YthpjbffhdaaibaaGreat.St

namespace Go.Proofs.YthpjbffhdaaibaaGreat
open Go.Shelf Go.RowKit
namespace Bld
def ren : Go.Shelf.Ren := ⟨fun | 240 => 111 | 276 => 113 | 166 => 95 | 170 => 97 | 169 => 98 | n => n, fun | 0 => 0 | 3 => 3 | 4 => 4 | 5 => 5 | 9 => 9 | 20 => 20 | 37 => 63 | 70 => 132 | 72 => 134 | 75 => 136 | 80 => 140 | 127 => 148 | 164 => 150 | n => n, fun | n => n⟩
theorem lays240 : Go.Proofs.Lays.n240 Tryz.prog ren := {
  mixed := by kernel_rfl
  f240 := Tryz.func111.trans (congrArg some (by kernel_rfl))
  f276 := Tryz.func113.trans (congrArg some (by kernel_rfl))
  t0 := Tryz.underlying0
  a0 := Tryz.isAgg0
  z0 := Tryz.sizeOf0
  v0 := Tryz.zeroValue0
  t4 := Tryz.underlying4
  a4 := Tryz.isAgg4
  z4 := Tryz.sizeOf4
  v4 := Tryz.zeroValue4
  t9 := Tryz.underlying9
  a9 := Tryz.isAgg9
  z9 := Tryz.sizeOf9
  v9 := Tryz.zeroValue9
  t20 := Tryz.underlying20
  a20 := Tryz.isAgg20
  z20 := Tryz.sizeOf20
  v20 := Tryz.zeroValue20
  t70 := Tryz.underlying132
  a70 := Tryz.isAgg132
  z70 := Tryz.sizeOf132
  v70 := Tryz.zeroValue132
  t72 := Tryz.underlying134
  a72 := Tryz.isAgg134
  z72 := Tryz.sizeOf134
  v72 := Tryz.zeroValue134
  t164 := Tryz.underlying150
  a164 := Tryz.isAgg150
  z164 := Tryz.sizeOf150
  v164 := Tryz.zeroValue150 }
theorem lays166 : Go.Proofs.Lays.n166 Tryz.prog ren := {
  mixed := by kernel_rfl
  f166 := Tryz.func95.trans (congrArg some (by kernel_rfl))
  f240 := Tryz.func111.trans (congrArg some (by kernel_rfl))
  f276 := Tryz.func113.trans (congrArg some (by kernel_rfl))
  t0 := Tryz.underlying0
  a0 := Tryz.isAgg0
  z0 := Tryz.sizeOf0
  v0 := Tryz.zeroValue0
  t3 := Tryz.underlying3
  a3 := Tryz.isAgg3
  z3 := Tryz.sizeOf3
  v3 := Tryz.zeroValue3
  t4 := Tryz.underlying4
  a4 := Tryz.isAgg4
  z4 := Tryz.sizeOf4
  v4 := Tryz.zeroValue4
  t9 := Tryz.underlying9
  a9 := Tryz.isAgg9
  z9 := Tryz.sizeOf9
  v9 := Tryz.zeroValue9
  t20 := Tryz.underlying20
  a20 := Tryz.isAgg20
  z20 := Tryz.sizeOf20
  v20 := Tryz.zeroValue20
  t37 := Tryz.underlying63
  a37 := Tryz.isAgg63
  z37 := Tryz.sizeOf63
  v37 := Tryz.zeroValue63
  t70 := Tryz.underlying132
  a70 := Tryz.isAgg132
  z70 := Tryz.sizeOf132
  v70 := Tryz.zeroValue132
  t72 := Tryz.underlying134
  a72 := Tryz.isAgg134
  z72 := Tryz.sizeOf134
  v72 := Tryz.zeroValue134
  t75 := Tryz.underlying136
  a75 := Tryz.isAgg136
  z75 := Tryz.sizeOf136
  v75 := Tryz.zeroValue136
  t164 := Tryz.underlying150
  a164 := Tryz.isAgg150
  z164 := Tryz.sizeOf150
  v164 := Tryz.zeroValue150 }
theorem lays170 : Go.Proofs.Lays.n170 Tryz.prog ren := {
  mixed := by kernel_rfl
  f170 := Tryz.func97.trans (congrArg some (by kernel_rfl))
  t0 := Tryz.underlying0
  a0 := Tryz.isAgg0
  z0 := Tryz.sizeOf0
  v0 := Tryz.zeroValue0
  t3 := Tryz.underlying3
  a3 := Tryz.isAgg3
  z3 := Tryz.sizeOf3
  v3 := Tryz.zeroValue3
  t37 := Tryz.underlying63
  a37 := Tryz.isAgg63
  z37 := Tryz.sizeOf63
  v37 := Tryz.zeroValue63
  t70 := Tryz.underlying132
  a70 := Tryz.isAgg132
  z70 := Tryz.sizeOf132
  v70 := Tryz.zeroValue132
  t72 := Tryz.underlying134
  a72 := Tryz.isAgg134
  z72 := Tryz.sizeOf134
  v72 := Tryz.zeroValue134 }
theorem lays169 : Go.Proofs.Lays.n169 Tryz.prog ren := {
  mixed := by kernel_rfl
  f169 := Tryz.func98.trans (congrArg some (by kernel_rfl))
  t0 := Tryz.underlying0
  a0 := Tryz.isAgg0
  z0 := Tryz.sizeOf0
  v0 := Tryz.zeroValue0
  t3 := Tryz.underlying3
  a3 := Tryz.isAgg3
  z3 := Tryz.sizeOf3
  v3 := Tryz.zeroValue3
  t9 := Tryz.underlying9
  a9 := Tryz.isAgg9
  z9 := Tryz.sizeOf9
  v9 := Tryz.zeroValue9
  t37 := Tryz.underlying63
  a37 := Tryz.isAgg63
  z37 := Tryz.sizeOf63
  v37 := Tryz.zeroValue63
  t70 := Tryz.underlying132
  a70 := Tryz.isAgg132
  z70 := Tryz.sizeOf132
  v70 := Tryz.zeroValue132
  t72 := Tryz.underlying134
  a72 := Tryz.isAgg134
  z72 := Tryz.sizeOf134
  v72 := Tryz.zeroValue134
  t127 := Tryz.underlying148
  a127 := Tryz.isAgg148
  z127 := Tryz.sizeOf148
  v127 := Tryz.zeroValue148 }
theorem x72 : Builder.X72 Tryz.prog ren := {
  sizeBuilder := by kernel_rfl
  liesBuilder := by kernel_rfl }
theorem extra : Builder.Extra Tryz.prog ren := {
  sizeBuilder := by kernel_rfl
  liesBuilder := by kernel_rfl
  t5 := Tryz.underlying5
  a5 := Tryz.isAgg5
  z5 := Tryz.sizeOf5
  v5 := Tryz.zeroValue5
  infoByte := by kernel_rfl
  cellsByte := by kernel_rfl
  sizeByte := by kernel_rfl
  neB5 := by decide }
/-- A builder at block b that holds these bytes (its base is its own block). -/
def Is (b : Nat) (l : List UInt8) (w : World) : Prop := Lib.IsBuilderF 134 5 b b (Lib.byteCells l) w
/-- What a call on the builder at b keeps: all below it, and each block that is neither it nor a row of bytes. -/
def Kept (b : Nat) (w w' : World) : Prop := Below b w w' ∧ Lib.OthersKept 5 (some b) w w'
theorem Is.new (w : World) : Is w.heap.size [] (w.alloc (.cells #[.pointer none, .slice none 0 0] 134)) := Lib.IsBuilderF.of (Lib.fresh_isBuilder _ _ w)
theorem at_held {b : Nat} {p : Value} {bs : List Value} {w a : World} (h : Lib.BuilderAtF 134 5 b b p bs w) (ha : Held w a) : Lib.BuilderAtF 134 5 b b p bs a := by
  have hlt := h.lt
  obtain ⟨hB, v, hv, hown, hne⟩ := h
  exact ⟨hB, v, (ha.block b hlt).trans hv, hown.kept (row := none) ⟨ha.os, ha.tape, ha.output, ha.size, fun k hk _ => ha.block k hk⟩ (Classical.em _), hne⟩
theorem Is.held {b : Nat} {l : List UInt8} {w a : World} (h : Is b l w) (ha : Held w a) : Is b l a := Or.elim h (fun x => .inl (at_held x ha)) (fun x => .inr (at_held x ha))
theorem Kept.box {b q : Nat} {w a : World} {cs : Array Value} {T : TypeId} {fz : Nat × Nat} (h : Kept b w a) (hq : w.heap[q]? = some (.cells cs T fz)) (hb : q ≠ b) (hT : T ≠ 5) : a.heap[q]? = some (.cells cs T fz) :=
  h.2 q _ hq (by simpa using hb) (by intro c z e; cases e; exact hT rfl)
theorem Kept.heldOf {b : Nat} {W w a : World} (h : Kept b w a) (hW : Held W w) (hb : W.heap.size ≤ b) : Held W a := Below.trans hW (Below.mono h.1 hb)
theorem write_any (b : Nat) (l : List UInt8) (s : ByteArray) (w : World) (h : Is b l w) (hlen : l.length + s.size ≤ 140737488355328) (hB : b ≤ w.heap.size) :
    Calls Tryz.prog 95 #[.pointer (some ⟨b, 0, none⟩), .string s] w fun e w' => e = .returned (.tuple #[.int .i64 s.size, .nilIface]) ∧ Is b (l ++ s.data.toList) w' ∧ Kept b w w' := by
  refine (Any.Builder_WriteString_k lays166 extra b b (Lib.byteCells l) s w h (by rw [Lib.byteCells_length]; exact hlen) hB).mono ?_
  rintro e w' ⟨rfl, h1, h2, h3⟩
  refine ⟨rfl, ?_, h2, h3⟩
  unfold Is
  rw [Lib.byteCells_append]
  exact Or.inr h1
theorem string_any (b : Nat) (l : List UInt8) (w : World) (h : Is b l w) (hB : b ≤ w.heap.size) :
    Calls Tryz.prog 98 #[.pointer (some ⟨b, 0, none⟩)] w fun e w' => e = .returned (.string ⟨l.toArray⟩) ∧ Is b l w' ∧ Kept b w w' :=
  (Any.Builder_String_any_k lays169 extra b b l w h hB).mono fun _ _ ⟨h0, h1, h2, h3⟩ => ⟨h0, h1, h2, h3⟩
theorem len_any (b : Nat) (l : List UInt8) (w : World) (h : Is b l w) :
    Calls Tryz.prog 97 #[.pointer (some ⟨b, 0, none⟩)] w fun e w' => e = .returned (.int .i64 l.length) ∧ w' = w := by
  have := Any.Builder_Len_f lays170 b b (Lib.byteCells l) w h
  rw [Lib.byteCells_length] at this
  exact this
end Bld
end Go.Proofs.YthpjbffhdaaibaaGreat
