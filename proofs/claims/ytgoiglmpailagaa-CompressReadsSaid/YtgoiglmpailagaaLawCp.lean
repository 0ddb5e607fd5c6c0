/-
  The laws of chapter 20: what they call besides, and their walks.
-/
import Derived.Test.YtgoiglmpailagaaCpF
import Derived.Test.YtgoiglmpailagaaMkD
import Derived.Test.YtgoiglmpailagaaRw
set_option linter.unusedVariables false
set_option maxRecDepth 100000
namespace Go.Proofs.Ytgoiglmpailagaa
open Go.RowKit
open By
open Rw (IsRow bd_i64)
namespace Cp
theorem awk_c : compress [97, 97, 97, 97, 97, 97, 97, 97, 97, 97] = [0, 97, 133, 1] := by decide +kernel
theorem awk_d (most : Nat) : dec most [0, 97, 133, 1] [] = if 10 ≤ most then (0, [97, 97, 97, 97, 97, 97, 97, 97, 97, 97]) else (2001, []) := by
  rw [← awk_c, back]; rfl
theorem awake_any (w : World) :
    Calls Try.prog 8 #[] w fun e w' => e = .returned (.bool true) ∧ Held w w' := by
  have hc := fun w => (compress_any ⟨#[97, 97, 97, 97, 97, 97, 97, 97, 97, 97]⟩ w (by decide))
  have hd := fun w => (dec_any ⟨#[0, 97, 133, 1]⟩ 10 w (by decide) (by decide))
  have he := fun w => (dec_any ⟨#[0, 97, 133, 1]⟩ 9 w (by decide) (by decide))
  have e1 : compress ((⟨#[97, 97, 97, 97, 97, 97, 97, 97, 97, 97]⟩ : ByteArray).data.toList) = [0, 97, 133, 1] := awk_c
  have e2 : dec ((10 : Int).toNat) ((⟨#[0, 97, 133, 1]⟩ : ByteArray).data.toList) [] = (0, [97, 97, 97, 97, 97, 97, 97, 97, 97, 97]) := awk_d 10
  have e3 : dec ((9 : Int).toNat) ((⟨#[0, 97, 133, 1]⟩ : ByteArray).data.toList) [] = (2001, []) := awk_d 9
  rw [e1] at hc
  rw [e2] at hd
  rw [e3] at he
  have HC := Lib.hid hc
  have HD := Lib.hid hd
  have HE := Lib.hid he
  clear hc hd he e1 e2 e3
  go_enter Try.func8, Try.ntmps8
  go_wp2_with fail
  refine (HC.out _).mono ?_
  rintro e w1 ⟨rfl, h1⟩
  have H1 := Lib.hid h1
  clear h1
  go_wp2_with fail
  refine (HD.out _).mono ?_
  rintro e w2 ⟨rfl, h2⟩
  have H2 := Lib.hid (H1.out.step h2)
  clear h2
  go_wp2_with fail
  refine (HE.out _).mono ?_
  rintro e w3 ⟨rfl, h3⟩
  have H3 := Lib.hid (H2.out.step h3)
  clear h3
  go_wp2
  go_ret
  exact ⟨rfl, H3.out⟩
theorem size_app (t : ByteArray) (l : List UInt8) : (t ++ (⟨l.toArray⟩ : ByteArray)).size = t.size + l.length := by rw [ByteArray.size_append]; rfl
theorem text_any (o : Option Addr) (len cap : Nat) (L : List Int) (w : World) (hL : L.length = len) (hmax : (len : Int) ≤ 9223372036854775807) (hcell : len = 0 ∨ ∃ b off, o = some ⟨b, off, none⟩ ∧ b < w.heap.size ∧ ∀ i (h : i < L.length), w.cell? ⟨b, off + i, none⟩ = some (.int .i64 L[i])) :
    Calls Try.prog 7 #[.slice o len cap] w fun e w' => ∃ t : ByteArray, e = .returned (.string t) ∧ t.size ≤ 1500 ∧ Held w w' := by
  have HC := Lib.hid hcell
  have HL := Lib.hid hL
  clear hcell hL
  go_enter Try.func7, Try.ntmps7
  go_wp2
  go_loopw [3, 4] (fun s i wr => ∃ (t : ByteArray) (j : Nat), s = .string t ∧ i = .int .i64 j ∧ j ≤ len ∧ j ≤ 40 ∧ t.size ≤ 90 * j ∧ Held w wr) (fun _ i _ => 40 - (intOf i).toNat)
  case atStart => exact ⟨⟨#[]⟩, 0, rfl, rfl, Nat.zero_le _, Nat.zero_le _, by simp [ByteArray.size], Held.refl _⟩
  case round =>
    obtain ⟨t, j, rfl, rfl, hj, hj40, ht, hh⟩ := hrel
    have HH := Lib.hid hh
    have ht' : (t.size : Int) ≤ 3600 := by omega
    by_cases hlt : j < len ∧ j < 40
    · obtain ⟨h1, h2⟩ := hlt
      obtain ⟨b, off, rfl, hb, hc⟩ : ∃ b off, o = some ⟨b, off, none⟩ ∧ b < w.heap.size ∧ ∀ i (h : i < L.length), w.cell? ⟨b, off + i, none⟩ = some (.int .i64 L[i]) := by
        rcases HC.out with h | h
        · omega
        · exact h
      have hcj := hh.cell (hc j (by rw [HL.out]; exact h1))
      clear hc hh
      generalize L[j]'(by rw [HL.out]; exact h1) = a at hcj
      obtain ⟨v, hv⟩ : ∃ v, Mk.mix a 16 = v := ⟨_, rfl⟩
      have hvl := Mk.mix_lt a 16
      rw [hv] at hvl
      have HM := Lib.hid (Mk.mix_any a 16 wr)
      rw [hv] at HM
      clear hv
      by_cases hbr : v % 3 > 0 ∧ 0 < t.size
      · obtain ⟨g1, g2⟩ := hbr
        have g1' : (0 : Int) < (v : Int) % 3 := by omega
        have g2' : (0 : Int) < (t.size : Int) := by omega
        have g3 : ¬ (t.size : Int) = 0 := by omega
        obtain ⟨f, hf⟩ : ∃ f : Nat, f = v / 16 % t.size := ⟨_, rfl⟩
        have hf1 : (v : Int) / 16 % (t.size : Int) = f := by rw [hf]; simp
        have hf2 : (f : Int) < t.size := by have := Nat.mod_lt (v / 16) g2; omega
        clear hf
        by_cases hmin : (f : Int) + (v : Int) / 1048576 % 90 < t.size
        all_goals
          go_wp2_with (go_at_call 14; refine HM.out.mono ?_; rintro e w' ⟨rfl, rfl⟩)
          go_roundw
          case rel => exact ⟨_, j + 1, rfl, by go_num, by omega, by omega, by simp only [ByteArray.size_append, ByteArray.size_extract]; omega, HH.out⟩
          case measure => (simp [intOf]) <;> omega
      · obtain ⟨k, hk⟩ : ∃ k : Nat, k = 1 + v / 256 % 30 := ⟨_, rfl⟩
        have hk1 : (1 : Int) + (v : Int) / 256 % 30 = k := by rw [hk]; simp
        have hk2 : (k : Int) ≤ 30 := by omega
        have HD := Lib.hid (Mk.data_any (v : Int) k wr (by omega))
        clear hk
        by_cases g1 : (0 : Int) < (v : Int) % 3
        · have g2 : t.size = 0 := by omega
          have g2' : ¬ (0 : Int) < (t.size : Int) := by omega
          clear hbr
          go_wp2_with (first | (go_at_call 14; refine HM.out.mono ?_; rintro e w' ⟨rfl, rfl⟩) | (go_at_call 15; refine HD.out.mono ?_; rintro e w2 ⟨l, hl, rfl, hh2⟩))
          go_roundw
          case rel => exact ⟨_, j + 1, rfl, by go_num, by omega, by omega, by have := size_app t l; omega, HH.out.step hh2⟩
          case measure => (simp [intOf]) <;> omega
        · clear hbr
          go_wp2_with (first | (go_at_call 14; refine HM.out.mono ?_; rintro e w' ⟨rfl, rfl⟩) | (go_at_call 15; refine HD.out.mono ?_; rintro e w2 ⟨l, hl, rfl, hh2⟩))
          go_roundw
          case rel => exact ⟨_, j + 1, rfl, by go_num, by omega, by omega, by have := size_app t l; omega, HH.out.step hh2⟩
          case measure => (simp [intOf]) <;> omega
    · clear hh
      have fin : Hid (True) := trivial
      by_cases h1 : j < len
      · obtain rfl : j = 40 := by omega
        clear hlt
        by_cases h15 : (t.size : Int) ≤ 1500
        · go_wp2
          go_ret
          exact ⟨_, rfl, by first | omega | (simp; omega), HH.out⟩
        · go_wp2
          go_ret
          exact ⟨_, rfl, by first | omega | (simp; omega), HH.out⟩
      · have h1' : ¬ (j : Int) < len := by omega
        clear hlt
        by_cases h15 : (t.size : Int) ≤ 1500
        · go_wp2
          go_ret
          exact ⟨_, rfl, by first | omega | (simp; omega), HH.out⟩
        · go_wp2
          go_ret
          exact ⟨_, rfl, by first | omega | (simp; omega), HH.out⟩
theorem view_of {o : Option Addr} {len cap : Nat} {z : List Int} {W : World} (h : IsRow .i64 W o len cap z) : ∃ L : List Int, L.length = len ∧ (len : Int) ≤ 9223372036854775807 ∧ (len = 0 ∨ ∃ b off, o = some ⟨b, off, none⟩ ∧ b < W.heap.size ∧ ∀ i (h : i < L.length), W.cell? ⟨b, off + i, none⟩ = some (.int .i64 L[i])) := by
  obtain ⟨L, hL, hmax, hwf, hcell⟩ := h.view
  exact ⟨L, hL, by unfold maxLen at hmax; omega, hcell⟩
theorem same_str (s : ByteArray) : ((s.toList == s.toList) : Bool) = true := by simp
theorem tells (s : ByteArray) (raw : Bool) (o : Option Addr) (len cap : Nat) (z : List Int) (hs : s.size ≤ maxLen) (W : World) (h : IsRow .i64 W o len cap z) :
    Calls Try.prog 3 #[.string s, .bool raw, .slice o len cap] W fun e w' => e = .returned (.bool true) ∧ Below W.heap.size W w' := by
  obtain ⟨L, hL, hmax, hcell⟩ := view_of h
  have HT := Lib.hid (text_any o len cap L W hL hmax hcell)
  have hs' : (s.size : Int) ≤ 9223372036854775807 := by unfold maxLen at hs; omega
  clear h hL hmax hcell
  cases raw with
  | true =>
    by_cases h15 : (1500 : Int) < s.size
    · go_enter Try.func3, Try.ntmps3
      go_wp2_with (go_at_call 8; refine (awake_any _).mono ?_; rintro e w1 ⟨rfl, h1⟩)
      go_ret
      exact ⟨rfl, h1⟩
    · have HC := fun w => Lib.hid (compress_any s w (by omega))
      have HR := fun w => Lib.hid (compress_ref s w (by omega))
      go_enter Try.func3, Try.ntmps3
      go_wp2_with (first | (go_at_call 9; refine (HC _).out.mono ?_; rintro e w1 ⟨rfl, h1⟩; have H1 := Lib.hid h1; clear h1) | (go_at_call 10; refine (HR _).out.mono ?_; rintro e w2 ⟨rfl, h2⟩; have H2 := Lib.hid (H1.out.step h2); clear h2) | (go_at_call 8; refine (awake_any _).mono ?_; rintro e w3 ⟨rfl, h3⟩; have H3 := Lib.hid (H2.out.step h3); clear h3))
      go_ret
      exact ⟨rfl, H3.out⟩
  | false =>
    go_enter Try.func3, Try.ntmps3
    go_wp2_with fail
    refine HT.out.mono ?_
    rintro e w0 ⟨t, rfl, ht, h0⟩
    have H0 := Lib.hid h0
    have h15 : ¬ (1500 : Int) < t.size := by omega
    clear h0
    have HC := fun w => Lib.hid (compress_any t w (by omega))
    have HR := fun w => Lib.hid (compress_ref t w (by omega))
    go_wp2_with (first | (go_at_call 9; refine (HC _).out.mono ?_; rintro e w1 ⟨rfl, h1⟩; have H1 := Lib.hid (H0.out.step h1); clear h1) | (go_at_call 10; refine (HR _).out.mono ?_; rintro e w2 ⟨rfl, h2⟩; have H2 := Lib.hid (H1.out.step h2); clear h2) | (go_at_call 8; refine (awake_any _).mono ?_; rintro e w3 ⟨rfl, h3⟩; have H3 := Lib.hid (H2.out.step h3); clear h3))
    go_ret
    exact ⟨rfl, H3.out⟩
theorem awk (w0 w : World) (h : Held w0 w) : Calls Try.prog 8 #[] w fun e w' => e = .returned (.bool true) ∧ Held w0 w' :=
  (awake_any w).mono fun e w' ⟨h1, h2⟩ => ⟨h1, h.step h2⟩
/-- Back, in the world's words. -/
theorem dec_back (s : ByteArray) (most : Int) (w : World) (hs : s.size ≤ 1500) (hm : most ≤ 9223372036854775807) :
    Calls Try.prog 12 #[.string ⟨(compress s.data.toList).toArray⟩, .int .i64 most] w fun e w' => e = .returned (if (s.size : Int) ≤ most ∨ s.size = 0 then .tuple #[.string s, .int .i64 0] else .tuple #[.string ⟨#[]⟩, .int .i64 2001]) ∧ Held w w' := by
  have hl := compress_len s.data.toList
  rw [size_len] at hl
  refine (dec_any ⟨(compress s.data.toList).toArray⟩ most w (by show ((compress s.data.toList).toArray.size : Int) ≤ _; rw [List.size_toArray]; omega) hm).mono ?_
  rintro e w' ⟨rfl, h⟩
  refine ⟨?_, h⟩
  have e1 : (⟨(compress s.data.toList).toArray⟩ : ByteArray).data.toList = compress s.data.toList := rfl
  rw [e1, back, size_len]
  by_cases hc : (s.size : Int) ≤ most ∨ s.size = 0
  · rw [if_pos hc, if_pos (by omega)]
    cases s; rfl
  · rw [if_neg hc, if_neg (by omega)]; rfl
theorem empty_of {s : ByteArray} (h : s.size = 0) : s = ⟨#[]⟩ := by
  obtain ⟨⟨l⟩⟩ := s
  have : l = [] := List.eq_nil_of_length_eq_zero h
  rw [this]
theorem nonempty_of {s : ByteArray} (h : ¬ s.size = 0) : s.toList.isEmpty = false := by
  rw [Lib.toList_data]
  cases hl : s.data.toList with
  | nil => exact absurd (by rw [← size_len, hl]; rfl) h
  | cons a l => rfl
theorem pack (s : ByteArray) (hs : s.size ≤ 1500) : ∃ c : ByteArray, (c.size : Int) ≤ s.size + (s.size + 127) / 128 ∧ c.size = (compress s.data.toList).length ∧ (∀ w, Calls Try.prog 9 #[.string s] w fun e w' => e = .returned (.string c) ∧ Held w w') ∧
    ∀ most w, most ≤ 9223372036854775807 → Calls Try.prog 12 #[.string c, .int .i64 most] w fun e w' => e = .returned (if (s.size : Int) ≤ most ∨ s.size = 0 then .tuple #[.string s, .int .i64 0] else .tuple #[.string ⟨#[]⟩, .int .i64 2001]) ∧ Held w w' := by
  refine ⟨⟨(compress s.data.toList).toArray⟩, ?_, ?_, fun w => compress_any s w (by omega), fun most w hm => dec_back s most w hs hm⟩
  · have hl := compress_len s.data.toList
    rw [size_len] at hl
    show ((compress s.data.toList).toArray.size : Int) ≤ _
    rw [List.size_toArray]; omega
  · exact List.size_toArray
theorem back_law (s : ByteArray) (raw : Bool) (o : Option Addr) (len cap : Nat) (z : List Int) (hs : s.size ≤ maxLen) (W : World) (h : IsRow .i64 W o len cap z) :
    Calls Try.prog 5 #[.string s, .bool raw, .slice o len cap] W fun e w' => e = .returned (.bool true) ∧ Below W.heap.size W w' := by
  obtain ⟨L, hL, hmax, hcell⟩ := view_of h
  have HT := Lib.hid (text_any o len cap L W hL hmax hcell)
  have hs' : (s.size : Int) ≤ 9223372036854775807 := by unfold maxLen at hs; omega
  clear h hL hmax hcell
  cases raw with
  | true =>
    by_cases h15 : (1500 : Int) < s.size
    · go_enter Try.func5, Try.ntmps5
      go_wp2_with (go_at_call 8; refine (awake_any _).mono ?_; rintro e w1 ⟨rfl, h1⟩)
      go_ret
      exact ⟨rfl, h1⟩
    · have H0 := Lib.hid (Held.refl W)
      obtain ⟨c, hc, hcl, HC, HD⟩ := pack s (by omega)
      have HCC := Lib.hid HC
      have HDD := Lib.hid HD
      have hc2 : (c.size : Int) ≤ 4000 := by omega
      have hc3 : (c.size : Int) ≤ 9223372036854775807 := by omega
      clear HC HD hcl
      by_cases h0 : s.size = 0
      · have hD1 := fun w => HDD.out 0 w (by omega)
        have hD2 := fun w => HDD.out (-1) w (by omega)
        rw [if_pos (.inr h0)] at hD1 hD2
        have HD1 := Lib.hid hD1
        have HD2 := Lib.hid hD2
        clear hD1 hD2
        have hc4 : (c.size : Int) = 0 := by omega
        obtain rfl := empty_of h0
        go_enter Try.func5, Try.ntmps5
        go_wp2_with fail
        refine (HCC.out _).mono ?_; rintro e w1 ⟨rfl, h1⟩; have H1 := Lib.hid (H0.out.step h1); clear h1
        go_wp2_with fail
        refine (HD1.out _).mono ?_; rintro e w2 ⟨rfl, h2⟩; have H2 := Lib.hid (H1.out.step h2); clear h2
        go_wp2_with fail
        refine (HD2.out _).mono ?_; rintro e w3 ⟨rfl, h3⟩; have H3 := Lib.hid (H2.out.step h3); clear h3
        go_wp2_with (go_at_call 8; refine (awk W _ H3.out).mono ?_; rintro e w4 ⟨rfl, h4⟩)
        go_ret
        exact ⟨rfl, h4⟩
      · have hD1 := fun w => HDD.out (s.size : Int) w (by omega)
        have hD2 := fun w => HDD.out ((s.size : Int) - 1) w (by omega)
        rw [if_pos (.inl (Int.le_refl _))] at hD1
        rw [if_neg (by omega)] at hD2
        have HD1 := Lib.hid hD1
        have HD2 := Lib.hid hD2
        clear hD1 hD2
        have hne := nonempty_of h0
        go_enter Try.func5, Try.ntmps5
        go_wp2_with fail
        refine (HCC.out _).mono ?_; rintro e w1 ⟨rfl, h1⟩; have H1 := Lib.hid (H0.out.step h1); clear h1
        go_wp2_with fail
        refine (HD1.out _).mono ?_; rintro e w2 ⟨rfl, h2⟩; have H2 := Lib.hid (H1.out.step h2); clear h2
        go_wp2_with fail
        refine (HD2.out _).mono ?_; rintro e w3 ⟨rfl, h3⟩; have H3 := Lib.hid (H2.out.step h3); clear h3
        go_wp2_with (go_at_call 8; refine (awk W _ H3.out).mono ?_; rintro e w4 ⟨rfl, h4⟩)
        go_ret
        exact ⟨rfl, h4⟩
  | false =>
    go_enter Try.func5, Try.ntmps5
    go_wp2_with fail
    refine HT.out.mono ?_
    rintro e w0 ⟨t, rfl, ht, h0⟩
    have H0 := Lib.hid h0
    have h15 : ¬ (1500 : Int) < t.size := by omega
    clear h0
    obtain ⟨c, hc, hcl, HC, HD⟩ := pack t (by omega)
    have HCC := Lib.hid HC
    have HDD := Lib.hid HD
    have hc2 : (c.size : Int) ≤ 4000 := by omega
    have hc3 : (c.size : Int) ≤ 9223372036854775807 := by omega
    clear HC HD hcl
    by_cases h0 : t.size = 0
    · have hD1 := fun w => HDD.out 0 w (by omega)
      have hD2 := fun w => HDD.out (-1) w (by omega)
      rw [if_pos (.inr h0)] at hD1 hD2
      have HD1 := Lib.hid hD1
      have HD2 := Lib.hid hD2
      clear hD1 hD2
      have hc4 : (c.size : Int) = 0 := by omega
      obtain rfl := empty_of h0
      go_wp2_with fail
      refine (HCC.out _).mono ?_; rintro e w1 ⟨rfl, h1⟩; have H1 := Lib.hid (H0.out.step h1); clear h1
      go_wp2_with fail
      refine (HD1.out _).mono ?_; rintro e w2 ⟨rfl, h2⟩; have H2 := Lib.hid (H1.out.step h2); clear h2
      go_wp2_with fail
      refine (HD2.out _).mono ?_; rintro e w3 ⟨rfl, h3⟩; have H3 := Lib.hid (H2.out.step h3); clear h3
      go_wp2_with (go_at_call 8; refine (awk W _ H3.out).mono ?_; rintro e w4 ⟨rfl, h4⟩)
      go_ret
      exact ⟨rfl, h4⟩
    · have hD1 := fun w => HDD.out (t.size : Int) w (by omega)
      have hD2 := fun w => HDD.out ((t.size : Int) - 1) w (by omega)
      rw [if_pos (.inl (Int.le_refl _))] at hD1
      rw [if_neg (by omega)] at hD2
      have HD1 := Lib.hid hD1
      have HD2 := Lib.hid hD2
      clear hD1 hD2
      have hne := nonempty_of h0
      go_wp2_with fail
      refine (HCC.out _).mono ?_; rintro e w1 ⟨rfl, h1⟩; have H1 := Lib.hid (H0.out.step h1); clear h1
      go_wp2_with fail
      refine (HD1.out _).mono ?_; rintro e w2 ⟨rfl, h2⟩; have H2 := Lib.hid (H1.out.step h2); clear h2
      go_wp2_with fail
      refine (HD2.out _).mono ?_; rintro e w3 ⟨rfl, h3⟩; have H3 := Lib.hid (H2.out.step h3); clear h3
      go_wp2_with (go_at_call 8; refine (awk W _ H3.out).mono ?_; rintro e w4 ⟨rfl, h4⟩)
      go_ret
      exact ⟨rfl, h4⟩
end Cp
end Go.Proofs.Ytgoiglmpailagaa
