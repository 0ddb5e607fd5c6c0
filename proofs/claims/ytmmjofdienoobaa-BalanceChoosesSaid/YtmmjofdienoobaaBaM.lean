/-
  Contracts: slices.Max, Min, Index, Contains at numbers.
-/
import Derived.Test.YtmmjofdienoobaaBaR
set_option linter.unusedVariables false
set_option linter.unusedSimpArgs false
set_option maxRecDepth 100000
namespace Go.Proofs.Ytmmjofdienoobaa
open Go.RowKit
namespace Ba
open Ad Adm
theorem mx_snoc (l : List Int) (x : Int) (h : l ≠ []) : mx (l ++ [x]) = if mx l < x then x else mx l := by
  cases l with
  | nil => exact absurd rfl h
  | cons a l =>
    show (l ++ [x]).foldl max a = if l.foldl max a < x then x else l.foldl max a
    rw [List.foldl_append]
    show max (l.foldl max a) x = _
    split <;> omega
theorem mn_snoc (l : List Int) (x : Int) (h : l ≠ []) : mn (l ++ [x]) = if x < mn l then x else mn l := by
  cases l with
  | nil => exact absurd rfl h
  | cons a l =>
    show (l ++ [x]).foldl min a = if x < l.foldl min a then x else l.foldl min a
    rw [List.foldl_append]
    show min (l.foldl min a) x = _
    split <;> omega
theorem take_snoc' {α : Type} {l : List α} {k : Nat} {x : α} (h : l[k]? = some x) : l.take (k + 1) = l.take k ++ [x] := by
  obtain ⟨hk, rfl⟩ := List.getElem?_eq_some_iff.1 h
  exact List.take_succ_eq_append_getElem hk
theorem take_ne {α : Type} {l : List α} {k : Nat} (h1 : 1 ≤ k) (h2 : k ≤ l.length) : l.take k ≠ [] := by
  intro h
  have := congrArg List.length h
  rw [List.length_take, List.length_nil] at this
  omega
theorem take_one {l : List Int} {x : Int} (h : l[0]? = some x) : l.take 1 = [x] := by
  have := take_snoc' (k := 0) h
  simpa using this
theorem max_any (A : Option Addr) (n cap : Nat) (l : List Int) (w : World) (h : Sl 1 inC w A n l) (h1 : 1 ≤ (n : Int)) (h2 : (n : Int) ≤ 1000000) :
    Calls Try.prog 46 #[.slice A n cap] w fun e w' => e = .returned (.int .i64 (mx l)) ∧ w = w' := by
  have HS := Lib.hid h
  have HN := Lib.hid h.1
  have HT := Lib.hid (take_all h.1 (Nat.le_refl n))
  clear h
  obtain ⟨b, off, x, rfl, lb, hx, x0⟩ := Sl.at1 HS.out (Held.refl w) (k := 0) (by omega)
  have HX := Lib.hid (take_one hx)
  rw [Nat.add_zero] at x0
  clear hx
  go_enter Try.func46, Try.ntmps46
  go_wp2
  go_loopw [3, 4] (fun m i wr => ∃ k : Nat, i = .int .i64 k ∧ 1 ≤ k ∧ k ≤ n ∧ m = .int .i64 (mx (l.take k)) ∧ wr = w) (fun _ i _ => n - (intOf i).toNat)
  case atStart => exact ⟨1, rfl, Nat.le_refl _, by omega, by rw [HX.out]; rfl, rfl⟩
  case round =>
    obtain ⟨k, rfl, hk1, hk, rfl, rfl⟩ := hrel
    obtain ⟨m, hm⟩ : ∃ m, mx (l.take k) = m := ⟨_, rfl⟩
    rw [hm]
    have HM := Lib.hid hm
    clear hm
    by_cases hlt : (k : Int) < n
    · obtain ⟨b2, off2, y, e, _, hy, y0⟩ := Sl.at1 HS.out (Held.refl wr) (k := k) (by omega)
      injection e with e
      injection e with e1 e2
      subst e1 e2
      have HSn := Lib.hid (mx_snoc (l.take k) y (take_ne hk1 (by have := HN.out; omega)))
      rw [← take_snoc' hy, HM.out] at HSn
      clear hy
      have k1 : ¬ (k : Int) < 0 := by omega
      by_cases hc : m < y
      · have HP : Hid (mx (l.take (k + 1)) = y) := show _ = _ by rw [HSn.out, if_pos hc]
        go_wp2
        go_roundw
        case rel => exact ⟨k + 1, by go_num, by omega, by omega, by rw [HP.out], by trivial⟩
        case measure => (simp [intOf]) <;> omega
      · have HP : Hid (mx (l.take (k + 1)) = m) := show _ = _ by rw [HSn.out, if_neg hc]
        go_wp2
        go_roundw
        case rel => exact ⟨k + 1, by go_num, by omega, by omega, by rw [HP.out], by trivial⟩
        case measure => (simp [intOf]) <;> omega
    · obtain rfl : k = n := by omega
      rw [HT.out] at HM
      go_wp2
      go_ret
      exact ⟨ret_i HM.out.symm, rfl⟩
theorem min_any (A : Option Addr) (n cap : Nat) (l : List Int) (w : World) (h : Sl 1 inC w A n l) (h1 : 1 ≤ (n : Int)) (h2 : (n : Int) ≤ 1000000) :
    Calls Try.prog 47 #[.slice A n cap] w fun e w' => e = .returned (.int .i64 (mn l)) ∧ w = w' := by
  have HS := Lib.hid h
  have HN := Lib.hid h.1
  have HT := Lib.hid (take_all h.1 (Nat.le_refl n))
  clear h
  obtain ⟨b, off, x, rfl, lb, hx, x0⟩ := Sl.at1 HS.out (Held.refl w) (k := 0) (by omega)
  have HX := Lib.hid (take_one hx)
  rw [Nat.add_zero] at x0
  clear hx
  go_enter Try.func47, Try.ntmps47
  go_wp2
  go_loopw [3, 4] (fun m i wr => ∃ k : Nat, i = .int .i64 k ∧ 1 ≤ k ∧ k ≤ n ∧ m = .int .i64 (mn (l.take k)) ∧ wr = w) (fun _ i _ => n - (intOf i).toNat)
  case atStart => exact ⟨1, rfl, Nat.le_refl _, by omega, by rw [HX.out]; rfl, rfl⟩
  case round =>
    obtain ⟨k, rfl, hk1, hk, rfl, rfl⟩ := hrel
    obtain ⟨m, hm⟩ : ∃ m, mn (l.take k) = m := ⟨_, rfl⟩
    rw [hm]
    have HM := Lib.hid hm
    clear hm
    by_cases hlt : (k : Int) < n
    · obtain ⟨b2, off2, y, e, _, hy, y0⟩ := Sl.at1 HS.out (Held.refl wr) (k := k) (by omega)
      injection e with e
      injection e with e1 e2
      subst e1 e2
      have HSn := Lib.hid (mn_snoc (l.take k) y (take_ne hk1 (by have := HN.out; omega)))
      rw [← take_snoc' hy, HM.out] at HSn
      clear hy
      have k1 : ¬ (k : Int) < 0 := by omega
      by_cases hc : y < m
      · have HP : Hid (mn (l.take (k + 1)) = y) := show _ = _ by rw [HSn.out, if_pos hc]
        go_wp2
        go_roundw
        case rel => exact ⟨k + 1, by go_num, by omega, by omega, by rw [HP.out], by trivial⟩
        case measure => (simp [intOf]) <;> omega
      · have HP : Hid (mn (l.take (k + 1)) = m) := show _ = _ by rw [HSn.out, if_neg hc]
        go_wp2
        go_roundw
        case rel => exact ⟨k + 1, by go_num, by omega, by omega, by rw [HP.out], by trivial⟩
        case measure => (simp [intOf]) <;> omega
    · obtain rfl : k = n := by omega
      rw [HT.out] at HM
      go_wp2
      go_ret
      exact ⟨ret_i HM.out.symm, rfl⟩
def hasI (l : List Int) (x : Int) : Bool := l.any fun y => decide (y = x)
theorem hasI_next {l : List Int} {x y : Int} {k : Nat} (h : l[k]? = some y) : hasI (l.take (k + 1)) x = (hasI (l.take k) x || decide (y = x)) := by
  unfold hasI; rw [take_snoc' h, List.any_append]; simp
theorem hasI_of {l : List Int} {x : Int} {k : Nat} (h : l[k]? = some x) : hasI l x = true := by
  unfold hasI; rw [List.any_eq_true]; exact ⟨x, List.mem_of_getElem? h, by simp⟩
theorem index_any (A : Option Addr) (n cap : Nat) (l : List Int) (x : Int) (w : World) (h : Sl 1 inC w A n l) (h2 : (n : Int) ≤ 1000000) :
    Calls Try.prog 52 #[.slice A n cap, .int .i64 x] w fun e w' => (∃ i : Int, e = .returned (.int .i64 i) ∧ hasI l x = decide (0 ≤ i) ∧ i ≤ 1000000) ∧ w = w' := by
  have HS := Lib.hid h
  have HT := Lib.hid (take_all h.1 (Nat.le_refl n))
  clear h
  go_enter Try.func52, Try.ntmps52
  go_wp2
  go_loopw [8] (fun i wr => ∃ k : Nat, i = .int .i64 k ∧ k ≤ n ∧ hasI (l.take k) x = false ∧ wr = w) (fun i _ => n - (intOf i).toNat)
  case atStart => exact ⟨0, rfl, Nat.zero_le _, rfl, rfl⟩
  case round =>
    obtain ⟨k, rfl, hk, hno, rfl⟩ := hrel
    have HNO := Lib.hid hno
    clear hno
    by_cases hlt : (k : Int) < n
    · obtain ⟨b2, off2, y, rfl, _, hy, y0⟩ := Sl.at1 HS.out (Held.refl wr) (k := k) (by omega)
      have HY := Lib.hid hy
      clear hy
      by_cases hc : x = y
      · have hb : (x == y) = true := by simp [hc]
        have HP : Hid (hasI l x = decide ((0 : Int) ≤ (k : Int))) := show _ = _ by rw [hasI_of (k := k) (by rw [hc]; exact HY.out)]; simp
        have hk0 : (k : Int) ≤ 1000000 := by omega
        clear hc
        go_wp2
        go_ret
        exact ⟨⟨_, rfl, HP.out, hk0⟩, rfl⟩
      · have hb : (x == y) = false := by simp [hc]
        have HN2 : Hid (hasI (l.take (k + 1)) x = false) := show _ = _ by rw [hasI_next HY.out, HNO.out]; simp; exact fun e => hc e.symm
        clear hc
        go_wp2
        go_roundw
        case rel => exact ⟨k + 1, by go_num, by omega, HN2.out, by trivial⟩
        case measure => (simp [intOf]) <;> omega
    · obtain rfl : k = n := by omega
      rw [HT.out] at HNO
      have HP : Hid (hasI l x = decide ((0 : Int) ≤ (-1 : Int))) := show _ = _ by rw [HNO.out]; rfl
      go_wp2
      go_ret
      exact ⟨⟨_, rfl, HP.out, by omega⟩, rfl⟩
theorem contains_any (A : Option Addr) (n cap : Nat) (l : List Int) (x : Int) (w : World) (h : Sl 1 inC w A n l) (h2 : (n : Int) ≤ 1000000) :
    Calls Try.prog 36 #[.slice A n cap, .int .i64 x] w fun e w' => e = .returned (.bool (hasI l x)) ∧ w = w' := by
  have HC := Lib.hid (fun w' (q : Held w w') => index_any A n cap l x w' (h.held q) h2)
  clear h
  go_enter Try.func36, Try.ntmps36
  go_wp2_with (go_at_call 52; refine (HC.out _ (Held.refl _)).mono ?_; rintro e w' ⟨⟨i, rfl, hi, hi2⟩, rfl⟩; have HI := Lib.hid hi; clear hi)
  go_ret
  exact ⟨ret_b HI.out.symm, rfl⟩
end Ba
end Go.Proofs.Ytmmjofdienoobaa
