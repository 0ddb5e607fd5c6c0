/-
  Contracts: the functions of admission and of its reference compute the plain functions of Ad.
  Contracts: Admit and Fits of admission and of its reference compute the plain functions of Ad.
  Contracts: Fits of admission and of its reference.
  Contracts: Fits of the reference.
-/
import Derived.Test.YtmmnanmegdflgaaProg
import Derived.Test.YtmmnanmegdflgaaZ1
import Derived.WalkSpells
import Derived.WalkLawsBesides
import Derived.BigQuiet
import Derived.Deep.QuietTactic
import Derived.Deep.RegionHeld3
namespace Go.Proofs.Ytmmnanmegdflgaa
open Go.RowKit
set_option linter.unusedVariables false
set_option maxRecDepth 100000
namespace Adm
open Ad
def cells (L : List Dem) : List Value := L.flatMap fun d => [.int .i64 d.r, .int .i64 d.l, .int .i64 d.c, .int .i64 d.g]
theorem units_any (n : Int) (w : World) : Calls Try.prog 75 #[.int .i64 n] w fun e w' => e = .returned (.bool (units n)) ∧ w = w' := by
  by_cases h1 : 0 ≤ n
  · by_cases h2 : n ≤ 1000000
    · have H : Hid (units n = true) := by unfold Hid units; simp [h1, h2]
      go_enter Try.func75, Try.ntmps75
      go_wp2
      go_ret
      exact ⟨by rw [H.out]; rfl, rfl⟩
    · have H : Hid (units n = false) := by unfold Hid units; simp [h2]
      go_enter Try.func75, Try.ntmps75
      go_wp2
      go_ret
      exact ⟨by rw [H.out]; rfl, rfl⟩
  · have H : Hid (units n = false) := by unfold Hid units; simp [h1]
    go_enter Try.func75, Try.ntmps75
    go_wp2
    go_ret
    exact ⟨by rw [H.out]; rfl, rfl⟩
theorem unit_any (n : Int) (w : World) : Calls Try.prog 82 #[.int .i64 n] w fun e w' => e = .returned (.bool (units n)) ∧ w = w' := by
  by_cases h1 : 0 ≤ n
  · by_cases h2 : n ≤ 1000000
    · have H : Hid (units n = true) := by unfold Hid units; simp [h1, h2]
      go_enter Try.func82, Try.ntmps82
      go_wp2
      go_ret
      exact ⟨by rw [H.out]; rfl, rfl⟩
    · have H : Hid (units n = false) := by unfold Hid units; simp [h2]
      go_enter Try.func82, Try.ntmps82
      go_wp2
      go_ret
      exact ⟨by rw [H.out]; rfl, rfl⟩
  · have H : Hid (units n = false) := by unfold Hid units; simp [h1]
    go_enter Try.func82, Try.ntmps82
    go_wp2
    go_ret
    exact ⟨by rw [H.out]; rfl, rfl⟩
/-- The slice value '.slice A n _' holds the demands L. -/
def Ds (w : World) (A : Option Addr) (n : Nat) (L : List Dem) : Prop :=
  L.length = n ∧ (n = 0 ∨ ∃ b off, A = some ⟨b, off, none⟩ ∧ ∀ k (h : k < L.length), w.cell? ⟨b, off + k * 4, none⟩ = some (.int .i64 L[k].r) ∧ w.cell? ⟨b, off + k * 4 + 1, none⟩ = some (.int .i64 L[k].l) ∧
    w.cell? ⟨b, off + k * 4 + 2, none⟩ = some (.int .i64 L[k].c) ∧ w.cell? ⟨b, off + k * 4 + 3, none⟩ = some (.int .i64 L[k].g))
theorem Ds.held {w a : World} {A : Option Addr} {n : Nat} {L : List Dem} (h : Ds w A n L) (ha : Held w a) : Ds a A n L :=
  ⟨h.1, h.2.imp id fun ⟨b, off, e, hc⟩ => ⟨b, off, e, fun k hk => ⟨ha.cell (hc k hk).1, ha.cell (hc k hk).2.1, ha.cell (hc k hk).2.2.1, ha.cell (hc k hk).2.2.2⟩⟩⟩
theorem Ds.take {w : World} {A : Option Addr} {n : Nat} {L : List Dem} (h : Ds w A n L) {k : Nat} (hk : k ≤ n) : Ds w A k (L.take k) := by
  refine ⟨by rw [List.length_take, h.1]; omega, ?_⟩
  rcases h.2 with h0 | ⟨b, off, e, hc⟩
  · exact .inl (by omega)
  · refine .inr ⟨b, off, e, fun j hj => ?_⟩
    simp only [List.length_take] at hj
    simp only [List.getElem_take]
    exact hc j (by omega)
/-- The four cells of an element, in whatever later world. -/
theorem Ds.at_ {w a : World} {A : Option Addr} {n : Nat} {L : List Dem} (h : Ds w A n L) (ha : Held w a) {k : Nat} (hk : k < n) : ∃ b off r l c g, A = some ⟨b, off, none⟩ ∧ L[k]? = some ⟨r, l, c, g⟩ ∧
    a.cell? ⟨b, off + k * 4, none⟩ = some (.int .i64 r) ∧ a.cell? ⟨b, off + k * 4 + 1, none⟩ = some (.int .i64 l) ∧ a.cell? ⟨b, off + k * 4 + 2, none⟩ = some (.int .i64 c) ∧ a.cell? ⟨b, off + k * 4 + 3, none⟩ = some (.int .i64 g) := by
  rcases h.2 with h0 | ⟨b, off, e, hc⟩
  · omega
  · have hl : k < L.length := by rw [h.1]; exact hk
    exact ⟨b, off, L[k].r, L[k].l, L[k].c, L[k].g, e, List.getElem?_eq_getElem hl, ha.cell (hc k hl).1, ha.cell (hc k hl).2.1, ha.cell (hc k hl).2.2.1, ha.cell (hc k hl).2.2.2⟩

theorem vd_any (r l c g : Int) (w : World) : Calls Try.prog 46 #[.agg #[.int .i64 r, .int .i64 l, .int .i64 c, .int .i64 g]] w fun e w' => e = .returned (.bool (vd ⟨r, l, c, g⟩)) ∧ Held w w' := by
  by_cases h1 : 0 ≤ r
  · by_cases h2 : r ≤ l
    · cases h3 : units l
      · have H : Hid (vd ⟨r, l, c, g⟩ = false) := by unfold Hid vd; simp [h3]
        go_enter Try.func46, Try.ntmps46
        go_wp2_with (go_at_call 75; refine (units_any _ _).mono ?_; rintro e w' ⟨rfl, rfl⟩)
        go_ret
        exact ⟨by rw [H.out]; rfl, (Held.refl _).alloc _⟩
      · cases h4 : units c
        · have H : Hid (vd ⟨r, l, c, g⟩ = false) := by unfold Hid vd; simp [h4]
          go_enter Try.func46, Try.ntmps46
          go_wp2_with (go_at_call 75; refine (units_any _ _).mono ?_; rintro e w' ⟨rfl, rfl⟩)
          go_ret
          exact ⟨by rw [H.out]; rfl, (Held.refl _).alloc _⟩
        · have H : Hid (vd ⟨r, l, c, g⟩ = decide (0 ≤ g)) := by unfold Hid vd; simp [h1, h2, h3, h4]
          go_enter Try.func46, Try.ntmps46
          go_wp2_with (go_at_call 75; refine (units_any _ _).mono ?_; rintro e w' ⟨rfl, rfl⟩)
          go_ret
          exact ⟨by rw [H.out]; rfl, (Held.refl _).alloc _⟩
    · have H : Hid (vd ⟨r, l, c, g⟩ = false) := by unfold Hid vd; simp [h2]
      go_enter Try.func46, Try.ntmps46
      go_wp2
      go_ret
      exact ⟨by rw [H.out]; rfl, (Held.refl _).alloc _⟩
  · have H : Hid (vd ⟨r, l, c, g⟩ = false) := by unfold Hid vd; simp [h1]
    go_enter Try.func46, Try.ntmps46
    go_wp2
    go_ret
    exact ⟨by rw [H.out]; rfl, (Held.refl _).alloc _⟩
theorem vd_ref_any (r l c g : Int) (w : World) : Calls Try.prog 59 #[.agg #[.int .i64 r, .int .i64 l, .int .i64 c, .int .i64 g]] w fun e w' => e = .returned (.bool (vd ⟨r, l, c, g⟩)) ∧ Held w w' := by
  cases h3 : units l
  · have H : Hid (vd ⟨r, l, c, g⟩ = false) := by unfold Hid vd; simp [h3]
    go_enter Try.func59, Try.ntmps59
    go_wp2_with (go_at_call 82; refine (unit_any _ _).mono ?_; rintro e w' ⟨rfl, rfl⟩)
    go_ret
    exact ⟨by rw [H.out]; rfl, (Held.refl _).alloc _⟩
  · cases h4 : units c
    · have H : Hid (vd ⟨r, l, c, g⟩ = false) := by unfold Hid vd; simp [h4]
      go_enter Try.func59, Try.ntmps59
      go_wp2_with (go_at_call 82; refine (unit_any _ _).mono ?_; rintro e w' ⟨rfl, rfl⟩)
      go_ret
      exact ⟨by rw [H.out]; rfl, (Held.refl _).alloc _⟩
    · by_cases h1 : 0 ≤ r
      · by_cases h2 : r ≤ l
        · have H : Hid (vd ⟨r, l, c, g⟩ = decide (0 ≤ g)) := by unfold Hid vd; simp [h1, h2, h3, h4]
          go_enter Try.func59, Try.ntmps59
          go_wp2_with (go_at_call 82; refine (unit_any _ _).mono ?_; rintro e w' ⟨rfl, rfl⟩)
          go_ret
          exact ⟨by rw [H.out]; rfl, (Held.refl _).alloc _⟩
        · have H : Hid (vd ⟨r, l, c, g⟩ = false) := by unfold Hid vd; simp [h2]
          go_enter Try.func59, Try.ntmps59
          go_wp2_with (go_at_call 82; refine (unit_any _ _).mono ?_; rintro e w' ⟨rfl, rfl⟩)
          go_ret
          exact ⟨by rw [H.out]; rfl, (Held.refl _).alloc _⟩
      · have H : Hid (vd ⟨r, l, c, g⟩ = false) := by unfold Hid vd; simp [h1]
        go_enter Try.func59, Try.ntmps59
        go_wp2_with (go_at_call 82; refine (unit_any _ _).mono ?_; rintro e w' ⟨rfl, rfl⟩)
        go_ret
        exact ⟨by rw [H.out]; rfl, (Held.refl _).alloc _⟩
theorem vh_any (m c : Int) (up : Bool) (w : World) : Calls Try.prog 48 #[.agg #[.int .i64 m, .int .i64 c, .bool up]] w fun e w' => e = .returned (.bool (vh m c)) ∧ Held w w' := by
  cases h3 : units m
  · have H : Hid (vh m c = false) := by unfold Hid vh; simp [h3]
    go_enter Try.func48, Try.ntmps48
    go_wp2_with (go_at_call 75; refine (units_any _ _).mono ?_; rintro e w' ⟨rfl, rfl⟩)
    go_ret
    exact ⟨by rw [H.out]; rfl, (Held.refl _).alloc _⟩
  · have H : Hid (vh m c = units c) := by unfold Hid vh; simp [h3]
    go_enter Try.func48, Try.ntmps48
    go_wp2_with (go_at_call 75; refine (units_any _ _).mono ?_; rintro e w' ⟨rfl, rfl⟩)
    go_ret
    exact ⟨by rw [H.out]; rfl, (Held.refl _).alloc _⟩
theorem vh_ref_any (m c : Int) (up : Bool) (w : World) : Calls Try.prog 57 #[.agg #[.int .i64 m, .int .i64 c, .bool up]] w fun e w' => e = .returned (.bool (vh m c)) ∧ Held w w' := by
  cases h3 : units m
  · have H : Hid (vh m c = false) := by unfold Hid vh; simp [h3]
    go_enter Try.func57, Try.ntmps57
    go_wp2_with (go_at_call 82; refine (unit_any _ _).mono ?_; rintro e w' ⟨rfl, rfl⟩)
    go_ret
    exact ⟨by rw [H.out]; rfl, (Held.refl _).alloc _⟩
  · have H : Hid (vh m c = units c) := by unfold Hid vh; simp [h3]
    go_enter Try.func57, Try.ntmps57
    go_wp2_with (go_at_call 82; refine (unit_any _ _).mono ?_; rintro e w' ⟨rfl, rfl⟩)
    go_ret
    exact ⟨by rw [H.out]; rfl, (Held.refl _).alloc _⟩
theorem demands_any (A : Option Addr) (len cap : Nat) (L : List Dem) (w : World) (hd : Ds w A len L) (hlen : (len : Int) ≤ 100) :
    Calls Try.prog 90 #[.slice A len cap] w fun e w' => e = .returned (.bool (decide (L.length ≤ 16) && L.all vd)) ∧ Held w w' := by
  have HL := Lib.hid hd.1
  have HD := Lib.hid hd
  clear hd
  by_cases h16 : (16 : Int) < len
  · have H : Hid ((decide (L.length ≤ 16) && L.all vd) = false) := show _ = _ by rw [HL.out]; simp; omega
    go_enter Try.func90, Try.ntmps90
    go_wp2
    go_ret
    exact ⟨by rw [H.out]; rfl, Held.refl _⟩
  · have H : Hid ((decide (L.length ≤ 16) && L.all vd) = L.all vd) := show _ = _ by rw [show decide (L.length ≤ 16) = true by rw [HL.out]; simp; omega]; rfl
    go_enter Try.func90, Try.ntmps90
    go_wp2
    go_loopw [3] (fun i wr => ∃ k : Nat, k ≤ len ∧ i = .int .i64 k ∧ (L.take k).all vd = true ∧ Held w wr) (fun i _ => len - (intOf i).toNat)
    case atStart => exact ⟨0, Nat.zero_le _, rfl, rfl, Held.refl _⟩
    case round =>
      obtain ⟨k, hk, rfl, hall, hh⟩ := hrel
      have HA := Lib.hid hall
      clear hall
      by_cases hlt : k < len
      · obtain ⟨b, off, r, l, c, g, rfl, hk?, c0, c1, c2, c3⟩ := HD.out.at_ hh hlt
        have hkL : k < L.length := by rw [HL.out]; exact hlt
        have hs : (L.take (k + 1)).all vd = vd ⟨r, l, c, g⟩ := by
          rw [all_snoc L k hkL, HA.out, (List.getElem?_eq_some_iff.1 hk?).2]; rfl
        have HS := Lib.hid hs
        clear hk? hs hkL
        cases hv : vd ⟨r, l, c, g⟩
        · have H2 : Hid (L.all vd = false) := by
            have h1 := HS.out; rw [hv] at h1
            show L.all vd = false
            cases h2 : L.all vd
            · rfl
            · rw [all_take h2] at h1; cases h1
          go_wp2_with (go_at_call 59; refine (vd_ref_any _ _ _ _ _).mono ?_; rintro e w1 ⟨rfl, h1⟩)
          go_ret
          exact ⟨by rw [H.out, H2.out]; rfl, hh.step h1⟩
        · go_wp2_with (go_at_call 59; refine (vd_ref_any _ _ _ _ _).mono ?_; rintro e w1 ⟨rfl, h1⟩)
          go_roundw
          case rel => exact ⟨k + 1, by omega, by go_num, by rw [HS.out, hv], hh.step h1⟩
          case measure => simp [intOf]; omega
      · obtain rfl : k = len := by omega
        have H2 : Hid (L.all vd = true) := show _ = _ by rw [← all_len, HL.out]; exact HA.out
        go_wp2
        go_ret
        exact ⟨by rw [H.out, H2.out]; rfl, hh⟩
theorem valid_eq (m c : Int) (L : List Dem) : valid m c L = (vh m c && (decide (L.length ≤ 16) && L.all vd)) := by unfold valid; rw [Bool.and_assoc]
theorem valid_any (m c : Int) (up : Bool) (A : Option Addr) (len cap : Nat) (L : List Dem) (w : World) (hd : Ds w A len L) (hlen : (len : Int) ≤ 100) :
    Calls Try.prog 86 #[.agg #[.int .i64 m, .int .i64 c, .bool up], .slice A len cap] w fun e w' => e = .returned (.bool (valid m c L)) ∧ Held w w' := by
  have HL := Lib.hid hd.1
  have HD := Lib.hid hd
  have HV := Lib.hid (valid_eq m c L)
  clear hd
  cases hvh : vh m c
  · have H : Hid (valid m c L = false) := show _ = _ by rw [HV.out, hvh]; rfl
    go_enter Try.func86, Try.ntmps86
    go_wp2_with (go_at_call 48; refine (vh_any _ _ _ _).mono ?_; rintro e w1 ⟨rfl, h1⟩)
    go_ret
    exact ⟨by rw [H.out]; rfl, ((Held.refl _).alloc _).step h1⟩
  · by_cases h16 : (16 : Int) < len
    · have H : Hid (valid m c L = false) := show _ = _ by rw [HV.out, hvh, HL.out]; simp; omega
      go_enter Try.func86, Try.ntmps86
      go_wp2_with (go_at_call 48; refine (vh_any _ _ _ _).mono ?_; rintro e w1 ⟨rfl, h1⟩)
      go_ret
      exact ⟨by rw [H.out]; rfl, ((Held.refl _).alloc _).step h1⟩
    · have H : Hid (valid m c L = L.all vd) := show _ = _ by rw [HV.out, hvh, show decide (L.length ≤ 16) = true by rw [HL.out]; simp; omega]; rfl
      go_enter Try.func86, Try.ntmps86
      go_wp2_with (go_at_call 48; refine (vh_any _ _ _ _).mono ?_; rintro e w1 ⟨rfl, h1⟩)
      have hw1 : Held w w1 := ((Held.refl _).alloc _).step h1
      have HW1 := Lib.hid hw1
      clear hw1 h1
      go_loopw [17] (fun i wr => ∃ k : Nat, k ≤ len ∧ i = .int .i64 k ∧ (L.take k).all vd = true ∧ Held w wr) (fun i _ => len - (intOf i).toNat)
      case atStart => exact ⟨0, Nat.zero_le _, rfl, rfl, HW1.out⟩
      case round =>
        obtain ⟨k, hk, rfl, hall, hh⟩ := hrel
        have HA := Lib.hid hall
        clear hall
        by_cases hlt : k < len
        · obtain ⟨b, off, r, l, c, g, rfl, hk?, c0, c1, c2, c3⟩ := HD.out.at_ hh hlt
          have hkL : k < L.length := by rw [HL.out]; exact hlt
          have hs : (L.take (k + 1)).all vd = vd ⟨r, l, c, g⟩ := by
            rw [all_snoc L k hkL, HA.out, (List.getElem?_eq_some_iff.1 hk?).2]; rfl
          have HS := Lib.hid hs
          clear hk? hs hkL
          cases hv : vd ⟨r, l, c, g⟩
          · have H2 : Hid (L.all vd = false) := by
              have h1 := HS.out; rw [hv] at h1
              show L.all vd = false
              cases h2 : L.all vd
              · rfl
              · rw [all_take h2] at h1; cases h1
            go_wp2_with (go_at_call 46; refine (vd_any _ _ _ _ _).mono ?_; rintro e w1 ⟨rfl, h1⟩)
            go_ret
            exact ⟨by rw [H.out, H2.out]; rfl, (hh.alloc _).step h1⟩
          · go_wp2_with (go_at_call 46; refine (vd_any _ _ _ _ _).mono ?_; rintro e w1 ⟨rfl, h1⟩)
            go_roundw
            case rel => exact ⟨k + 1, by omega, by go_num, by rw [HS.out, hv], (hh.alloc _).step h1⟩
            case measure => simp [intOf]; omega
        · obtain rfl : k = len := by omega
          have H2 : Hid (L.all vd = true) := show _ = _ by rw [← all_len, HL.out]; exact HA.out
          go_wp2
          go_ret
          exact ⟨by rw [H.out, H2.out]; rfl, hh⟩

theorem sumR_at (L : List Dem) (k : Nat) (d : Dem) (h : L[k]? = some d) : sumR (L.take (k + 1)) = sumR (L.take k) + d.r := by
  obtain ⟨hk, rfl⟩ := List.getElem?_eq_some_iff.1 h
  rw [take_snoc L k hk, sumR_snoc]
theorem sumC_at (L : List Dem) (k : Nat) (d : Dem) (h : L[k]? = some d) : sumC (L.take (k + 1)) = sumC (L.take k) + d.c := by
  obtain ⟨hk, rfl⟩ := List.getElem?_eq_some_iff.1 h
  rw [take_snoc L k hk, sumC_snoc]
theorem ret_two {a b c d : Int} (h : a = b) (h' : c = d) : Ending.returned (.tuple #[.int .i64 a, .int .i64 c]) = .returned (.tuple #[.int .i64 b, .int .i64 d]) := by rw [h, h']
theorem int_eq {a b : Int} (h : a = b) : Value.int .i64 a = .int .i64 b := by rw [h]
theorem valid_parts {m c : Int} {L : List Dem} (h : valid m c L = true) : (0 ≤ m ∧ m ≤ 1000000) ∧ (0 ≤ c ∧ c ≤ 1000000) ∧ L.length ≤ 16 ∧ L.all vd = true := by
  simp only [valid, vh, Bool.and_eq_true, decide_eq_true_eq] at h
  exact ⟨(units_iff _).1 h.1.1.1, (units_iff _).1 h.1.1.2, h.1.2, h.2⟩

theorem free_any (m c : Int) (up : Bool) (A : Option Addr) (len cap : Nat) (L : List Dem) (w : World) (hd : Ds w A len L) (hlen : (len : Int) ≤ 100) :
    Calls Try.prog 87 #[.agg #[.int .i64 m, .int .i64 c, .bool up], .slice A len cap] w fun e w' => e = .returned (.tuple #[.int .i64 (freeM m c L), .int .i64 (freeC m c L)]) ∧ Held w w' := by
  have HL := Lib.hid hd.1
  have HD := Lib.hid hd
  have hd' := hd.held ((Held.refl w).alloc (.cells #[.int .i64 m, .int .i64 c, .bool up] 25))
  have HD' := Lib.hid hd'
  clear hd hd'
  cases hv : valid m c L
  · have H1 : Hid (freeM m c L = 0) := show (if valid m c L then _ else _) = _ by rw [hv]; rfl
    have H2 : Hid (freeC m c L = 0) := show (if valid m c L then _ else _) = _ by rw [hv]; rfl
    go_enter Try.func87, Try.ntmps87
    go_wp2_with (go_at_call 86; refine (valid_any _ _ _ _ _ _ L _ HD'.out hlen).mono ?_; rintro e w1 ⟨rfl, h1⟩)
    go_ret2
    exact ⟨by rw [H1.out, H2.out]; rfl, ((Held.refl _).alloc _).step h1⟩
  · have H1 : Hid (freeM m c L = m - sumR L) := show (if valid m c L then _ else _) = _ by rw [hv]; rfl
    have H2 : Hid (freeC m c L = c - sumC L) := show (if valid m c L then _ else _) = _ by rw [hv]; rfl
    have VP := Lib.hid (valid_parts hv)
    go_enter Try.func87, Try.ntmps87
    go_wp2_with (go_at_call 86; refine (valid_any _ _ _ _ _ _ L _ HD'.out hlen).mono ?_; rintro e w1 ⟨rfl, h1⟩; have c0 : w1.cell? ⟨w.heap.size, 0, none⟩ = some (.int .i64 m) := h1.cell (by simp); have c1 : w1.cell? ⟨w.heap.size, 1, none⟩ = some (.int .i64 c) := h1.cell (by simp))
    have hw1 : Held w w1 := ((Held.refl _).alloc _).step h1
    have HW1 := Lib.hid hw1
    clear hw1 h1
    go_quiet (fail)
    go_wp2
    go_loopw [6, 7, 20] (fun x y i wr => ∃ k : Nat, k ≤ len ∧ i = .int .i64 k ∧ x = .int .i64 (m - sumR (L.take k)) ∧ y = .int .i64 (c - sumC (L.take k)) ∧ Held w wr) (fun _ _ i _ => len - (intOf i).toNat)
    case atStart => exact ⟨0, Nat.zero_le _, rfl, int_eq (by simp [sumR]), int_eq (by simp [sumC]), HW1.out.drewN _⟩
    case round =>
      obtain ⟨k, hk, rfl, rfl, rfl, hh⟩ := hrel
      by_cases hlt : k < len
      · obtain ⟨b, off, r, l, cc, g, rfl, hk?, c0, c1, c2, c3⟩ := HD.out.at_ hh hlt
        have hvd : vd ⟨r, l, cc, g⟩ = true := List.all_eq_true.1 VP.out.2.2.2 _ (List.mem_of_getElem? hk?)
        have hbd := vd_bd hvd
        have hr1 : 0 ≤ r := hbd.1
        have hr2 : r ≤ 1000000 := hbd.2.1
        have hc1 : 0 ≤ cc := hbd.2.2.1
        have hc2 : cc ≤ 1000000 := hbd.2.2.2.1
        have hsum := sum_bd (L.take k) (all_take VP.out.2.2.2 k)
        have hlk : (L.take k).length ≤ 16 := Nat.le_trans (List.length_take_le' _ _) VP.out.2.2.1
        have hs1 : 0 ≤ sumR (L.take k) := hsum.1
        have hs2 : sumR (L.take k) ≤ 16000000 := by omega
        have hs3 : 0 ≤ sumC (L.take k) := hsum.2.2.1
        have hs4 : sumC (L.take k) ≤ 16000000 := by omega
        have hm := VP.out.1
        have hc := VP.out.2.1
        have S1 : Hid (sumR (L.take (k + 1)) = sumR (L.take k) + r) := sumR_at L k _ hk?
        have S2 : Hid (sumC (L.take (k + 1)) = sumC (L.take k) + cc) := sumC_at L k _ hk?
        clear hk? hvd hbd hsum hlk
        go_wp2
        go_roundw
        case rel => exact ⟨k + 1, by omega, by go_num, int_eq (by rw [S1.out]; omega), int_eq (by rw [S2.out]; omega), hh.alloc _⟩
        case measure => simp [intOf]; omega
      · obtain rfl : k = len := by omega
        have T1 : Hid (L.take k = L) := show _ = _ by rw [← HL.out, List.take_length]
        go_wp2
        go_ret2
        exact ⟨by rw [H1.out, H2.out]; exact ret_two (by rw [T1.out]) (by rw [T1.out]), hh⟩
theorem free_ref_any (m c : Int) (up : Bool) (A : Option Addr) (len cap : Nat) (L : List Dem) (w : World) (hd : Ds w A len L) (hlen : (len : Int) ≤ 100) :
    Calls Try.prog 91 #[.agg #[.int .i64 m, .int .i64 c, .bool up], .slice A len cap] w fun e w' => e = .returned (.tuple #[.int .i64 (freeM m c L), .int .i64 (freeC m c L)]) ∧ Held w w' := by
  have HL := Lib.hid hd.1
  have HD := Lib.hid hd
  have hd' := fun w1 (h : Held (w.alloc (.cells #[.int .i64 m, .int .i64 c, .bool up] 25)) w1) => hd.held (((Held.refl w).alloc (.cells #[.int .i64 m, .int .i64 c, .bool up] 25)).step h)
  have HD' := Lib.hid hd'
  have HV := Lib.hid (valid_eq m c L)
  clear hd hd'
  cases hv : valid m c L
  · have H1 : Hid (freeM m c L = 0) := show (if valid m c L then _ else _) = _ by rw [hv]; rfl
    have H2 : Hid (freeC m c L = 0) := show (if valid m c L then _ else _) = _ by rw [hv]; rfl
    cases hvh : vh m c
    · go_enter Try.func91, Try.ntmps91
      go_wp2_with (go_at_call 57; refine (vh_ref_any _ _ _ _).mono ?_; rintro e w1 ⟨rfl, h1⟩)
      go_ret2
      exact ⟨by rw [H1.out, H2.out]; rfl, ((Held.refl _).alloc _).step h1⟩
    · have hf : (decide (L.length ≤ 16) && L.all vd) = false := by have := HV.out; rw [hv, hvh] at this; simpa using this.symm
      have HF := Lib.hid hf
      clear hf
      go_enter Try.func91, Try.ntmps91
      go_wp2_with (first | (go_at_call 57; refine (vh_ref_any _ _ _ _).mono ?_; rintro e w1 ⟨rfl, h1⟩) | (go_at_call 90; refine (demands_any _ _ _ L _ (HD'.out _ h1) hlen).mono ?_; rintro e w2 ⟨rfl, h2⟩; rw [HF.out]))
      go_ret2
      exact ⟨by rw [H1.out, H2.out]; rfl, (((Held.refl _).alloc _).step h1).step h2⟩
  · have H1 : Hid (freeM m c L = m - sumR L) := show (if valid m c L then _ else _) = _ by rw [hv]; rfl
    have H2 : Hid (freeC m c L = c - sumC L) := show (if valid m c L then _ else _) = _ by rw [hv]; rfl
    have VP := Lib.hid (valid_parts hv)
    have hvh : vh m c = true := by have := HV.out; rw [hv] at this; simp only [Bool.true_eq, Bool.and_eq_true] at this; exact this.1
    have hf : (decide (L.length ≤ 16) && L.all vd) = true := by have := HV.out; rw [hv, hvh] at this; simpa using this.symm
    have HF := Lib.hid hf
    clear hf
    go_enter Try.func91, Try.ntmps91
    go_wp2_with (first | (go_at_call 57; refine (vh_ref_any _ _ _ _).mono ?_; rintro e w1 ⟨rfl, h1⟩) | (go_at_call 90; refine (demands_any _ _ _ L _ (HD'.out _ h1) hlen).mono ?_; rintro e w2 ⟨rfl, h2⟩; rw [HF.out]; have c0 : w2.cell? ⟨w.heap.size, 0, none⟩ = some (.int .i64 m) := h2.cell (h1.cell (by simp)); have c1 : w2.cell? ⟨w.heap.size, 1, none⟩ = some (.int .i64 c) := h2.cell (h1.cell (by simp))))
    have hw1 : Held w w2 := (((Held.refl _).alloc _).step h1).step h2
    have HW1 := Lib.hid hw1
    clear hw1 h1 h2
    go_quiet (fail)
    go_wp2
    go_loopw [6, 7, 8] (fun x y i wr => ∃ k : Nat, k ≤ len ∧ i = .int .i64 k ∧ x = .int .i64 (m - sumR (L.take k)) ∧ y = .int .i64 (c - sumC (L.take k)) ∧ Held w wr) (fun _ _ i _ => len - (intOf i).toNat)
    case atStart => exact ⟨0, Nat.zero_le _, rfl, int_eq (by simp [sumR]), int_eq (by simp [sumC]), HW1.out.drewN _⟩
    case round =>
      obtain ⟨k, hk, rfl, rfl, rfl, hh⟩ := hrel
      by_cases hlt : k < len
      · obtain ⟨b, off, r, l, cc, g, rfl, hk?, c0, c1, c2, c3⟩ := HD.out.at_ hh hlt
        have hvd : vd ⟨r, l, cc, g⟩ = true := List.all_eq_true.1 VP.out.2.2.2 _ (List.mem_of_getElem? hk?)
        have hbd := vd_bd hvd
        have hr1 : 0 ≤ r := hbd.1
        have hr2 : r ≤ 1000000 := hbd.2.1
        have hc1 : 0 ≤ cc := hbd.2.2.1
        have hc2 : cc ≤ 1000000 := hbd.2.2.2.1
        have hsum := sum_bd (L.take k) (all_take VP.out.2.2.2 k)
        have hlk : (L.take k).length ≤ 16 := Nat.le_trans (List.length_take_le' _ _) VP.out.2.2.1
        have hs1 : 0 ≤ sumR (L.take k) := hsum.1
        have hs2 : sumR (L.take k) ≤ 16000000 := by omega
        have hs3 : 0 ≤ sumC (L.take k) := hsum.2.2.1
        have hs4 : sumC (L.take k) ≤ 16000000 := by omega
        have hm := VP.out.1
        have hc := VP.out.2.1
        have S1 : Hid (sumR (L.take (k + 1)) = sumR (L.take k) + r) := sumR_at L k _ hk?
        have S2 : Hid (sumC (L.take (k + 1)) = sumC (L.take k) + cc) := sumC_at L k _ hk?
        clear hk? hvd hbd hsum hlk
        go_wp2
        go_roundw
        case rel => exact ⟨k + 1, by omega, by go_num, int_eq (by rw [S1.out]; omega), int_eq (by rw [S2.out]; omega), hh⟩
        case measure => simp [intOf]; omega
      · obtain rfl : k = len := by omega
        have T1 : Hid (L.take k = L) := show _ = _ by rw [← HL.out, List.take_length]
        go_wp2
        go_ret2
        exact ⟨by rw [H1.out, H2.out]; exact ret_two (by rw [T1.out]) (by rw [T1.out]), hh⟩
end Adm
end Go.Proofs.Ytmmnanmegdflgaa

namespace Go.Proofs.Ytmmnanmegdflgaa
open Go.RowKit
set_option linter.unusedVariables false
set_option maxRecDepth 100000
namespace Adm
open Ad
theorem boxes {w w1 : World} {m c : Int} {up : Bool} {r l cc g : Int} (h : Held ((w.alloc (.cells #[.int .i64 m, .int .i64 c, .bool up] 25)).alloc (.cells #[.int .i64 r, .int .i64 l, .int .i64 cc, .int .i64 g] 23)) w1) :
    w1.cell? ⟨w.heap.size, 0, none⟩ = some (.int .i64 m) ∧ w1.cell? ⟨w.heap.size, 1, none⟩ = some (.int .i64 c) ∧ w1.cell? ⟨w.heap.size, 2, none⟩ = some (.bool up) ∧
    w1.cell? ⟨w.heap.size + 1, 0, none⟩ = some (.int .i64 r) ∧ w1.cell? ⟨w.heap.size + 1, 1, none⟩ = some (.int .i64 l) ∧ w1.cell? ⟨w.heap.size + 1, 2, none⟩ = some (.int .i64 cc) ∧ w1.cell? ⟨w.heap.size + 1, 3, none⟩ = some (.int .i64 g) :=
  ⟨h.cell (by simp), h.cell (by simp), h.cell (by simp), h.cell (by simp), h.cell (by simp), h.cell (by simp), h.cell (by simp)⟩
theorem two (w : World) (a b : Obj) : Held w ((w.alloc a).alloc b) := ((Held.refl w).alloc a).alloc b
theorem ret_errno {a b : Int} (h : a = b) : Ending.returned (.int .i64 a) = .returned (.int .i64 b) := by rw [h]
theorem clash_at (L : List Dem) (k : Nat) (d : Dem) (g : Int) (h : L[k]? = some d) : clash (L.take (k + 1)) g = (clash (L.take k) g || decide (d.g = g)) := by
  obtain ⟨hk, rfl⟩ := List.getElem?_eq_some_iff.1 h
  exact clash_snoc L k hk g
theorem clash_mem {L : List Dem} {k : Nat} {g : Int} (h : clash (L.take k) g = true) : clash L g = true := by
  unfold clash at *
  rw [List.any_eq_true] at *
  obtain ⟨x, hx, hp⟩ := h
  exact ⟨x, List.mem_of_mem_take hx, hp⟩
theorem admit_any (m c : Int) (up : Bool) (A : Option Addr) (len cap : Nat) (L : List Dem) (r l cc g : Int) (w : World) (hd : Ds w A len L) (hlen : (len : Int) ≤ 100) :
    Calls Try.prog 70 #[.agg #[.int .i64 m, .int .i64 c, .bool up], .slice A len cap, .agg #[.int .i64 r, .int .i64 l, .int .i64 cc, .int .i64 g]] w
      fun e w' => e = .returned (.int .i64 (admit m c up L ⟨r, l, cc, g⟩)) ∧ Held w w' := by
  have HL := Lib.hid hd.1
  have HD := Lib.hid hd
  have TW := Lib.hid (two w (.cells #[.int .i64 m, .int .i64 c, .bool up] 25) (.cells #[.int .i64 r, .int .i64 l, .int .i64 cc, .int .i64 g] 23))
  clear hd
  have HF := fun (e : Int) (h : admit m c up L ⟨r, l, cc, g⟩ = e) => Lib.hid h
  cases hv : valid m c L
  · have H := HF 3900 (by unfold admit; rw [hv]; rfl)
    clear HF
    go_enter Try.func70, Try.ntmps70
    go_wp2_with (go_at_call 86; refine (valid_any _ _ _ _ _ _ L _ (HD.out.held TW.out) hlen).mono ?_; rintro e w1 ⟨rfl, h1⟩)
    go_ret
    exact ⟨by rw [H.out]; rfl, TW.out.step h1⟩
  cases hvd : vd ⟨r, l, cc, g⟩
  · have H := HF 3900 (by unfold admit; rw [hv, hvd]; rfl)
    clear HF
    go_enter Try.func70, Try.ntmps70
    go_wp2_with (first | (go_at_call 86; refine (valid_any _ _ _ _ _ _ L _ (HD.out.held TW.out) hlen).mono ?_; rintro e w1 ⟨rfl, h1⟩; obtain ⟨c0, c1, c2, d0, d1, d2, d3⟩ := boxes h1) | (go_at_call 46; refine (vd_any _ _ _ _ _).mono ?_; rintro e w2 ⟨rfl, h2⟩))
    go_ret
    exact ⟨by rw [H.out]; rfl, (TW.out.step h1).step h2⟩
  have ht : (valid m c L && vd ⟨r, l, cc, g⟩) = true := by rw [hv, hvd]; rfl
  have HF1 := fun (e : Int) (h : (if up = false then 3904 else if freeM m c L < r then 3901 else if freeC m c L < cc then 3902 else if g ≠ 0 ∧ clash L g = true then 3903 else (0 : Int)) = e) =>
    HF e (by unfold admit; rw [ht, if_neg (by simp)]; exact h)
  clear HF ht
  cases hup : up
  · subst hup
    have H := HF1 3904 (by rw [if_pos rfl])
    clear HF1
    go_enter Try.func70, Try.ntmps70
    go_wp2_with (first | (go_at_call 86; refine (valid_any _ _ _ _ _ _ L _ (HD.out.held TW.out) hlen).mono ?_; rintro e w1 ⟨rfl, h1⟩; obtain ⟨c0, c1, c2, d0, d1, d2, d3⟩ := boxes h1) | (go_at_call 46; refine (vd_any _ _ _ _ _).mono ?_; rintro e w2 ⟨rfl, h2⟩; obtain ⟨e0, e1, e2, f0, f1, f2, f3⟩ := boxes (h1.step h2)))
    go_ret
    exact ⟨by rw [H.out]; rfl, (TW.out.step h1).step h2⟩
  · subst hup
    have HF2 := fun (e : Int) (h : (if freeM m c L < r then 3901 else if freeC m c L < cc then 3902 else if g ≠ 0 ∧ clash L g = true then 3903 else (0 : Int)) = e) => HF1 e (by rw [if_neg (by simp)]; exact h)
    clear HF1
    obtain ⟨fm, hfm⟩ : ∃ x, freeM m c L = x := ⟨_, rfl⟩
    obtain ⟨fc, hfc⟩ : ∃ x, freeC m c L = x := ⟨_, rfl⟩
    rw [hfm, hfc] at HF2
    by_cases hm : fm < r
    · have H := HF2 3901 (by rw [if_pos hm])
      clear HF2
      go_enter Try.func70, Try.ntmps70
      go_wp2_with (first | (go_at_call 86; refine (valid_any _ _ _ _ _ _ L _ (HD.out.held TW.out) hlen).mono ?_; rintro e w1 ⟨rfl, h1⟩; obtain ⟨c0, c1, c2, d0, d1, d2, d3⟩ := boxes h1) | (go_at_call 46; refine (vd_any _ _ _ _ _).mono ?_; rintro e w2 ⟨rfl, h2⟩; obtain ⟨e0, e1, e2, f0, f1, f2, f3⟩ := boxes (h1.step h2)) | (go_at_call 87; refine (free_any _ _ _ _ _ _ L _ (HD.out.held ((TW.out.step h1).step h2)) hlen).mono ?_; rintro e w3 ⟨rfl, h3⟩; obtain ⟨g0, g1, g2, k0, k1, k2, k3⟩ := boxes ((h1.step h2).step h3)))
      go_ret
      exact ⟨by rw [H.out]; rfl, ((TW.out.step h1).step h2).step h3⟩
    by_cases hc : fc < cc
    · have H := HF2 3902 (by rw [if_neg hm, if_pos hc])
      clear HF2
      go_enter Try.func70, Try.ntmps70
      go_wp2_with (first | (go_at_call 86; refine (valid_any _ _ _ _ _ _ L _ (HD.out.held TW.out) hlen).mono ?_; rintro e w1 ⟨rfl, h1⟩; obtain ⟨c0, c1, c2, d0, d1, d2, d3⟩ := boxes h1) | (go_at_call 46; refine (vd_any _ _ _ _ _).mono ?_; rintro e w2 ⟨rfl, h2⟩; obtain ⟨e0, e1, e2, f0, f1, f2, f3⟩ := boxes (h1.step h2)) | (go_at_call 87; refine (free_any _ _ _ _ _ _ L _ (HD.out.held ((TW.out.step h1).step h2)) hlen).mono ?_; rintro e w3 ⟨rfl, h3⟩; obtain ⟨g0, g1, g2, k0, k1, k2, k3⟩ := boxes ((h1.step h2).step h3)))
      go_ret
      exact ⟨by rw [H.out]; rfl, ((TW.out.step h1).step h2).step h3⟩
    by_cases hg : g = 0
    · have H := HF2 0 (by rw [if_neg hm, if_neg hc, if_neg (by simp [hg])])
      have hg' : (g != 0) = false := by simp [hg]
      clear HF2
      have HG := Lib.hid hg
      clear hg
      go_enter Try.func70, Try.ntmps70
      go_wp2_with (first | (go_at_call 86; refine (valid_any _ _ _ _ _ _ L _ (HD.out.held TW.out) hlen).mono ?_; rintro e w1 ⟨rfl, h1⟩; obtain ⟨c0, c1, c2, d0, d1, d2, d3⟩ := boxes h1) | (go_at_call 46; refine (vd_any _ _ _ _ _).mono ?_; rintro e w2 ⟨rfl, h2⟩; obtain ⟨e0, e1, e2, f0, f1, f2, f3⟩ := boxes (h1.step h2)) | (go_at_call 87; refine (free_any _ _ _ _ _ _ L _ (HD.out.held ((TW.out.step h1).step h2)) hlen).mono ?_; rintro e w3 ⟨rfl, h3⟩; obtain ⟨g0, g1, g2, k0, k1, k2, k3⟩ := boxes ((h1.step h2).step h3)))
      go_ret
      exact ⟨by rw [H.out]; rfl, ((TW.out.step h1).step h2).step h3⟩
    · have H := HF2 (if clash L g = true then 3903 else 0) (by rw [if_neg hm, if_neg hc]; by_cases hcl : clash L g = true <;> simp [hg, hcl])
      have hg' : (g != 0) = true := by simp [hg]
      clear HF2 hg
      go_enter Try.func70, Try.ntmps70
      go_wp2_with (first | (go_at_call 86; refine (valid_any _ _ _ _ _ _ L _ (HD.out.held TW.out) hlen).mono ?_; rintro e w1 ⟨rfl, h1⟩; obtain ⟨c0, c1, c2, d0, d1, d2, d3⟩ := boxes h1) | (go_at_call 46; refine (vd_any _ _ _ _ _).mono ?_; rintro e w2 ⟨rfl, h2⟩; obtain ⟨e0, e1, e2, f0, f1, f2, f3⟩ := boxes (h1.step h2)) | (go_at_call 87; refine (free_any _ _ _ _ _ _ L _ (HD.out.held ((TW.out.step h1).step h2)) hlen).mono ?_; rintro e w3 ⟨rfl, h3⟩; obtain ⟨g0, g1, g2, k0, k1, k2, k3⟩ := boxes ((h1.step h2).step h3)))
      have hw3 : Held w w3 := ((TW.out.step h1).step h2).step h3
      have HW3 := Lib.hid hw3
      have K3 := Lib.hid k3
      clear hw3 c0 c1 c2 d0 d1 d2 d3 e0 e1 e2 f0 f1 f2 f3 g0 g1 g2 k0 k1 k2 k3 h1 h2 h3
      go_loopw [42] (fun i wr => ∃ k : Nat, k ≤ len ∧ i = .int .i64 k ∧ clash (L.take k) g = false ∧ Held w3 wr) (fun i _ => len - (intOf i).toNat)
      case atStart => exact ⟨0, Nat.zero_le _, rfl, rfl, Held.refl _⟩
      case round =>
        obtain ⟨k, hk, rfl, hcl, hh⟩ := hrel
        have HCL := Lib.hid hcl
        clear hcl
        by_cases hlt : k < len
        · obtain ⟨b, off, xr, xl, xc, xg, rfl, hk?, q0, q1, q2, q3⟩ := HD.out.at_ (HW3.out.step hh) hlt
          have hs := clash_at L k _ g hk?
          rw [HCL.out, Bool.false_or] at hs
          have HS : Hid (clash (L.take (k + 1)) g = decide (xg = g)) := hs
          have kg : wr.cell? ⟨w.heap.size + 1, 3, none⟩ = some (.int .i64 g) := hh.cell K3.out
          have hsz : w.heap.size + 1 < wr.heap.size := lt_of_cell kg
          clear hk? hs
          by_cases hx : xg = g
          · have hx' : (xg == g) = true := by simp [hx]
            have H2 : Hid (clash L g = true) := clash_mem (k := k + 1) (by rw [HS.out]; simp [hx])
            clear hx
            go_wp2
            go_ret
            exact ⟨by rw [H.out, H2.out]; rfl, (HW3.out.step hh).alloc _⟩
          · have hx' : (xg == g) = false := by simp [hx]
            have H2 : Hid (clash (L.take (k + 1)) g = false) := show _ = _ by rw [HS.out]; simp [hx]
            clear hx
            go_wp2
            go_roundw
            case rel => exact ⟨k + 1, by omega, by go_num, H2.out, hh.alloc _⟩
            case measure => simp [intOf]; omega
        · obtain rfl : k = len := by omega
          have H2 : Hid (clash L g = false) := show _ = _ by rw [← HCL.out, ← HL.out, List.take_length]
          go_wp2
          go_ret
          exact ⟨by rw [H.out, H2.out]; rfl, HW3.out.step hh⟩
theorem admit_ref_any (m c : Int) (up : Bool) (A : Option Addr) (len cap : Nat) (L : List Dem) (r l cc g : Int) (w : World) (hd : Ds w A len L) (hlen : (len : Int) ≤ 100) :
    Calls Try.prog 74 #[.agg #[.int .i64 m, .int .i64 c, .bool up], .slice A len cap, .agg #[.int .i64 r, .int .i64 l, .int .i64 cc, .int .i64 g]] w
      fun e w' => e = .returned (.int .i64 (admit m c up L ⟨r, l, cc, g⟩)) ∧ Held w w' := by
  have HL := Lib.hid hd.1
  have HD := Lib.hid hd
  have TW := Lib.hid (two w (.cells #[.int .i64 m, .int .i64 c, .bool up] 25) (.cells #[.int .i64 r, .int .i64 l, .int .i64 cc, .int .i64 g] 23))
  clear hd
  have HF := fun (e : Int) (h : admit m c up L ⟨r, l, cc, g⟩ = e) => Lib.hid h
  have HV := Lib.hid (valid_eq m c L)
  cases hvh : vh m c
  · have H := HF 3900 (by unfold admit; rw [HV.out, hvh]; rfl)
    clear HF
    go_enter Try.func74, Try.ntmps74
    go_wp2_with (go_at_call 57; refine (vh_ref_any _ _ _ _).mono ?_; rintro e w1 ⟨rfl, h1⟩)
    go_ret
    exact ⟨by rw [H.out]; rfl, TW.out.step h1⟩
  cases hvd : vd ⟨r, l, cc, g⟩
  · have H := HF 3900 (by unfold admit; rw [hvd, Bool.and_false]; rfl)
    clear HF
    go_enter Try.func74, Try.ntmps74
    go_wp2_with (first | (go_at_call 57; refine (vh_ref_any _ _ _ _).mono ?_; rintro e w1 ⟨rfl, h1⟩; obtain ⟨c0, c1, c2, d0, d1, d2, d3⟩ := boxes h1) | (go_at_call 59; refine (vd_ref_any _ _ _ _ _).mono ?_; rintro e w2 ⟨rfl, h2⟩))
    go_ret
    exact ⟨by rw [H.out]; rfl, (TW.out.step h1).step h2⟩
  cases hds : (decide (L.length ≤ 16) && L.all vd)
  · have H := HF 3900 (by unfold admit; rw [HV.out, hvh, hds]; rfl)
    have HDS := Lib.hid hds
    clear HF hds
    go_enter Try.func74, Try.ntmps74
    go_wp2_with (first | (go_at_call 57; refine (vh_ref_any _ _ _ _).mono ?_; rintro e w1 ⟨rfl, h1⟩; obtain ⟨c0, c1, c2, d0, d1, d2, d3⟩ := boxes h1) | (go_at_call 59; refine (vd_ref_any _ _ _ _ _).mono ?_; rintro e w2 ⟨rfl, h2⟩; obtain ⟨e0, e1, e2, f0, f1, f2, f3⟩ := boxes (h1.step h2)) | (go_at_call 90; refine (demands_any _ _ _ L _ (HD.out.held ((TW.out.step h1).step h2)) hlen).mono ?_; rintro e w3 ⟨rfl, h3⟩; rw [HDS.out]))
    go_ret
    exact ⟨by rw [H.out]; rfl, ((TW.out.step h1).step h2).step h3⟩
  have ht : (valid m c L && vd ⟨r, l, cc, g⟩) = true := by rw [HV.out, hvh, hds, hvd]; rfl
  have HDS := Lib.hid hds
  clear hds
  have HF1 := fun (e : Int) (h : (if up = false then 3904 else if freeM m c L < r then 3901 else if freeC m c L < cc then 3902 else if g ≠ 0 ∧ clash L g = true then 3903 else (0 : Int)) = e) =>
    HF e (by unfold admit; rw [ht, if_neg (by simp)]; exact h)
  clear HF ht
  cases hup : up
  · subst hup
    have H := HF1 3904 (by rw [if_pos rfl])
    clear HF1
    go_enter Try.func74, Try.ntmps74
    go_wp2_with (first | (go_at_call 57; refine (vh_ref_any _ _ _ _).mono ?_; rintro e w1 ⟨rfl, h1⟩; obtain ⟨c0, c1, c2, d0, d1, d2, d3⟩ := boxes h1) | (go_at_call 59; refine (vd_ref_any _ _ _ _ _).mono ?_; rintro e w2 ⟨rfl, h2⟩; obtain ⟨e0, e1, e2, f0, f1, f2, f3⟩ := boxes (h1.step h2)) | (go_at_call 90; refine (demands_any _ _ _ L _ (HD.out.held ((TW.out.step h1).step h2)) hlen).mono ?_; rintro e w3 ⟨rfl, h3⟩; rw [HDS.out]; obtain ⟨g0, g1, g2, k0, k1, k2, k3⟩ := boxes ((h1.step h2).step h3)) | (go_at_call 91; refine (free_ref_any _ _ _ _ _ _ L _ (HD.out.held (((TW.out.step h1).step h2).step h3)) hlen).mono ?_; rintro e w4 ⟨rfl, h4⟩; obtain ⟨n0, n1, n2, p0, p1, p2, p3⟩ := boxes (((h1.step h2).step h3).step h4)))
    go_ret
    exact ⟨by rw [H.out]; rfl, ((TW.out.step h1).step h2).step h3⟩
  · subst hup
    have HF2 := fun (e : Int) (h : (if freeM m c L < r then 3901 else if freeC m c L < cc then 3902 else if g ≠ 0 ∧ clash L g = true then 3903 else (0 : Int)) = e) => HF1 e (by rw [if_neg (by simp)]; exact h)
    clear HF1
    obtain ⟨fm, hfm⟩ : ∃ x, freeM m c L = x := ⟨_, rfl⟩
    obtain ⟨fc, hfc⟩ : ∃ x, freeC m c L = x := ⟨_, rfl⟩
    rw [hfm, hfc] at HF2
    by_cases hm : fm < r
    · have H := HF2 3901 (by rw [if_pos hm])
      clear HF2
      go_enter Try.func74, Try.ntmps74
      go_wp2_with (first | (go_at_call 57; refine (vh_ref_any _ _ _ _).mono ?_; rintro e w1 ⟨rfl, h1⟩; obtain ⟨c0, c1, c2, d0, d1, d2, d3⟩ := boxes h1) | (go_at_call 59; refine (vd_ref_any _ _ _ _ _).mono ?_; rintro e w2 ⟨rfl, h2⟩; obtain ⟨e0, e1, e2, f0, f1, f2, f3⟩ := boxes (h1.step h2)) | (go_at_call 90; refine (demands_any _ _ _ L _ (HD.out.held ((TW.out.step h1).step h2)) hlen).mono ?_; rintro e w3 ⟨rfl, h3⟩; rw [HDS.out]; obtain ⟨g0, g1, g2, k0, k1, k2, k3⟩ := boxes ((h1.step h2).step h3)) | (go_at_call 91; refine (free_ref_any _ _ _ _ _ _ L _ (HD.out.held (((TW.out.step h1).step h2).step h3)) hlen).mono ?_; rintro e w4 ⟨rfl, h4⟩; obtain ⟨n0, n1, n2, p0, p1, p2, p3⟩ := boxes (((h1.step h2).step h3).step h4)))
      go_ret
      exact ⟨by rw [H.out]; rfl, (((TW.out.step h1).step h2).step h3).step h4⟩
    by_cases hc : fc < cc
    · have H := HF2 3902 (by rw [if_neg hm, if_pos hc])
      clear HF2
      go_enter Try.func74, Try.ntmps74
      go_wp2_with (first | (go_at_call 57; refine (vh_ref_any _ _ _ _).mono ?_; rintro e w1 ⟨rfl, h1⟩; obtain ⟨c0, c1, c2, d0, d1, d2, d3⟩ := boxes h1) | (go_at_call 59; refine (vd_ref_any _ _ _ _ _).mono ?_; rintro e w2 ⟨rfl, h2⟩; obtain ⟨e0, e1, e2, f0, f1, f2, f3⟩ := boxes (h1.step h2)) | (go_at_call 90; refine (demands_any _ _ _ L _ (HD.out.held ((TW.out.step h1).step h2)) hlen).mono ?_; rintro e w3 ⟨rfl, h3⟩; rw [HDS.out]; obtain ⟨g0, g1, g2, k0, k1, k2, k3⟩ := boxes ((h1.step h2).step h3)) | (go_at_call 91; refine (free_ref_any _ _ _ _ _ _ L _ (HD.out.held (((TW.out.step h1).step h2).step h3)) hlen).mono ?_; rintro e w4 ⟨rfl, h4⟩; obtain ⟨n0, n1, n2, p0, p1, p2, p3⟩ := boxes (((h1.step h2).step h3).step h4)))
      go_ret
      exact ⟨by rw [H.out]; rfl, (((TW.out.step h1).step h2).step h3).step h4⟩
    have H := HF2 (if g ≠ 0 ∧ clash L g = true then 3903 else 0) (by rw [if_neg hm, if_neg hc])
    clear HF2
    go_enter Try.func74, Try.ntmps74
    go_wp2_with (first | (go_at_call 57; refine (vh_ref_any _ _ _ _).mono ?_; rintro e w1 ⟨rfl, h1⟩; obtain ⟨c0, c1, c2, d0, d1, d2, d3⟩ := boxes h1) | (go_at_call 59; refine (vd_ref_any _ _ _ _ _).mono ?_; rintro e w2 ⟨rfl, h2⟩; obtain ⟨e0, e1, e2, f0, f1, f2, f3⟩ := boxes (h1.step h2)) | (go_at_call 90; refine (demands_any _ _ _ L _ (HD.out.held ((TW.out.step h1).step h2)) hlen).mono ?_; rintro e w3 ⟨rfl, h3⟩; rw [HDS.out]; obtain ⟨g0, g1, g2, k0, k1, k2, k3⟩ := boxes ((h1.step h2).step h3)) | (go_at_call 91; refine (free_ref_any _ _ _ _ _ _ L _ (HD.out.held (((TW.out.step h1).step h2).step h3)) hlen).mono ?_; rintro e w4 ⟨rfl, h4⟩; obtain ⟨n0, n1, n2, p0, p1, p2, p3⟩ := boxes (((h1.step h2).step h3).step h4)))
    have hw3 : Held w w4 := (((TW.out.step h1).step h2).step h3).step h4
    have HW3 := Lib.hid hw3
    have K3 := Lib.hid p3
    clear hw3 c0 c1 c2 d0 d1 d2 d3 e0 e1 e2 f0 f1 f2 f3 g0 g1 g2 k0 k1 k2 k3 h1 h2 h3 h4 n0 n1 n2 p0 p1 p2 p3
    go_loopw [9] (fun i wr => ∃ k : Nat, k ≤ len ∧ i = .int .i64 k ∧ ¬ (g ≠ 0 ∧ clash (L.take k) g = true) ∧ Held w4 wr) (fun i _ => len - (intOf i).toNat)
    case atStart => exact ⟨0, Nat.zero_le _, rfl, by simp [clash], Held.refl _⟩
    case round =>
      obtain ⟨k, hk, rfl, hcl, hh⟩ := hrel
      have HCL := Lib.hid hcl
      clear hcl
      by_cases hlt : k < len
      · obtain ⟨b, off, xr, xl, xc, xg, rfl, hk?, q0, q1, q2, q3⟩ := HD.out.at_ (HW3.out.step hh) hlt
        have HS : Hid (clash (L.take (k + 1)) g = (clash (L.take k) g || decide (xg = g))) := clash_at L k _ g hk?
        have kg : wr.cell? ⟨w.heap.size + 1, 3, none⟩ = some (.int .i64 g) := hh.cell K3.out
        clear hk?
        by_cases hg : g = 0
        · have hg' : (g != 0) = false := by simp [hg]
          have HG := Lib.hid hg
          clear hg
          go_wp2
          go_quiet (fail)
          go_wp2
          go_roundw
          case rel => exact ⟨k + 1, by omega, by go_num, fun h => h.1 HG.out, hh.drewN _⟩
          case measure => simp [intOf]; omega
        · have hg' : (g != 0) = true := by simp [hg]
          have HG := Lib.hid hg
          clear hg
          have hno : clash (L.take k) g = false := by
            cases h : clash (L.take k) g
            · rfl
            · exact absurd ⟨HG.out, h⟩ HCL.out
          have HN := Lib.hid hno
          clear hno
          by_cases hx : xg = g
          · have hx' : (xg == g) = true := by simp [hx]
            have H2 : Hid (g ≠ 0 ∧ clash L g = true) := ⟨HG.out, clash_mem (k := k + 1) (by rw [HS.out]; simp [hx])⟩
            clear hx
            go_wp2
            go_quiet (fail)
            go_wp2
            go_ret
            exact ⟨by rw [H.out, if_pos H2.out]; rfl, (HW3.out.step hh).drewN _⟩
          · have hx' : (xg == g) = false := by simp [hx]
            have H2 : Hid (clash (L.take (k + 1)) g = false) := show _ = _ by rw [HS.out, HN.out]; simp [hx]
            clear hx
            go_wp2
            go_quiet (fail)
            go_wp2
            go_roundw
            case rel => exact ⟨k + 1, by omega, by go_num, fun h => by rw [H2.out] at h; simp at h, hh.drewN _⟩
            case measure => simp [intOf]; omega
      · obtain rfl : k = len := by omega
        have H2 : Hid (¬ (g ≠ 0 ∧ clash L g = true)) := fun h => HCL.out ⟨h.1, by rw [← HL.out, List.take_length]; exact h.2⟩
        go_wp2
        go_ret
        exact ⟨by rw [H.out, if_neg H2.out]; rfl, HW3.out.step hh⟩
end Adm
end Go.Proofs.Ytmmnanmegdflgaa

namespace Go.Proofs.Ytmmnanmegdflgaa
open Go.RowKit
set_option linter.unusedVariables false
set_option maxRecDepth 100000
namespace Adm
open Ad
theorem fits_at {m c : Int} {up : Bool} {L : List Dem} {k : Nat} {d : Dem} (h : L[k]? = some d) : fitsTo m c up L (k + 1) = (fitsTo m c up L k && decide (admit m c up (L.take k) d = 0)) := by
  rw [fitsTo, h]
theorem fits_any (m c : Int) (up : Bool) (A : Option Addr) (len cap : Nat) (L : List Dem) (w : World) (hd : Ds w A len L) (hlen : (len : Int) ≤ 100) (hcap : len ≤ cap) :
    Calls Try.prog 49 #[.agg #[.int .i64 m, .int .i64 c, .bool up], .slice A len cap] w fun e w' => e = .returned (.bool (fits m c up L)) ∧ Held w w' := by
  have HL := Lib.hid hd.1
  have HD := Lib.hid hd
  clear hd
  have W0 := Lib.hid ((Held.refl w).alloc (.cells #[.int .i64 m, .int .i64 c, .bool up] 25))
  have HF : Hid (fits m c up L = fitsTo m c up L len) := show _ = _ by unfold fits; rw [HL.out]
  go_enter Try.func49, Try.ntmps49
  go_wp2
  go_loopw [9] (fun i wr => ∃ k : Nat, k ≤ len ∧ i = .int .i64 k ∧ fitsTo m c up L k = true ∧ Held (w.alloc (.cells #[.int .i64 m, .int .i64 c, .bool up] 25)) wr) (fun i _ => len - (intOf i).toNat)
  case atStart => exact ⟨0, Nat.zero_le _, rfl, rfl, Held.refl _⟩
  case round =>
    obtain ⟨k, hk, rfl, hft, hh⟩ := hrel
    have HT := Lib.hid hft
    clear hft
    by_cases hlt : k < len
    · obtain ⟨b, off, r, l, cc, g, rfl, hk?, q0, q1, q2, q3⟩ := HD.out.at_ (W0.out.step hh) hlt
      have HS : Hid (fitsTo m c up L (k + 1) = (fitsTo m c up L k && decide (admit m c up (L.take k) ⟨r, l, cc, g⟩ = 0))) := fits_at hk?
      have b0 : wr.cell? ⟨w.heap.size, 0, none⟩ = some (.int .i64 m) := hh.cell (by simp)
      have b1 : wr.cell? ⟨w.heap.size, 1, none⟩ = some (.int .i64 c) := hh.cell (by simp)
      have b2 : wr.cell? ⟨w.heap.size, 2, none⟩ = some (.bool up) := hh.cell (by simp)
      have hsz : w.heap.size < wr.heap.size := lt_of_cell b0
      have hDs := HD.out.take hk
      have HDS := Lib.hid hDs
      clear hk? hDs
      have s0 : (wr.alloc (.cells #[.int .i64 r, .int .i64 l, .int .i64 cc, .int .i64 g] 23)).cell? ⟨w.heap.size, 0, none⟩ = some (.int .i64 m) := ((Held.refl wr).alloc _).cell b0
      have s1 : (wr.alloc (.cells #[.int .i64 r, .int .i64 l, .int .i64 cc, .int .i64 g] 23)).cell? ⟨w.heap.size, 1, none⟩ = some (.int .i64 c) := ((Held.refl wr).alloc _).cell b1
      have s2 : (wr.alloc (.cells #[.int .i64 r, .int .i64 l, .int .i64 cc, .int .i64 g] 23)).cell? ⟨w.heap.size, 2, none⟩ = some (.bool up) := ((Held.refl wr).alloc _).cell b2
      have s3 : (wr.alloc (.cells #[.int .i64 r, .int .i64 l, .int .i64 cc, .int .i64 g] 23)).cell? ⟨wr.heap.size, 0, none⟩ = some (.int .i64 r) := by simp
      have s4 : (wr.alloc (.cells #[.int .i64 r, .int .i64 l, .int .i64 cc, .int .i64 g] 23)).cell? ⟨wr.heap.size, 1, none⟩ = some (.int .i64 l) := by simp
      have s5 : (wr.alloc (.cells #[.int .i64 r, .int .i64 l, .int .i64 cc, .int .i64 g] 23)).cell? ⟨wr.heap.size, 2, none⟩ = some (.int .i64 cc) := by simp
      have s6 : (wr.alloc (.cells #[.int .i64 r, .int .i64 l, .int .i64 cc, .int .i64 g] 23)).cell? ⟨wr.heap.size, 3, none⟩ = some (.int .i64 g) := by simp
      have hkc : (k : Int) ≤ cap := by omega
      obtain ⟨ad, had⟩ : ∃ x, admit m c up (L.take k) ⟨r, l, cc, g⟩ = x := ⟨_, rfl⟩
      have HAD := Lib.hid had
      rw [had] at HS
      clear had
      by_cases ha : ad = 0
      · have ha' : (ad != 0) = false := by simp [ha]
        have H2 : Hid (fitsTo m c up L (k + 1) = true) := show _ = _ by rw [HS.out, HT.out]; simp [ha]
        clear ha
        go_wp2
        go_region_held3 (fun w' => w'.cell? ⟨w.heap.size, 0, none⟩ = some (.int .i64 m) ∧ w'.cell? ⟨w.heap.size, 1, none⟩ = some (.int .i64 c) ∧ w'.cell? ⟨w.heap.size, 2, none⟩ = some (.bool up) ∧
            w'.cell? ⟨wr.heap.size, 0, none⟩ = some (.int .i64 r) ∧ w'.cell? ⟨wr.heap.size, 1, none⟩ = some (.int .i64 l) ∧ w'.cell? ⟨wr.heap.size, 2, none⟩ = some (.int .i64 cc) ∧ w'.cell? ⟨wr.heap.size, 3, none⟩ = some (.int .i64 g) ∧ Held (wr.alloc (.cells #[.int .i64 r, .int .i64 l, .int .i64 cc, .int .i64 g] 23)) w')
          ((repeat' refine And.intro ?_ ?_) <;> first | exact s0 | exact s1 | exact s2 | exact s3 | exact s4 | exact s5 | exact s6 | exact (Held.refl _).drew | exact Held.cell (by assumption) s0 | exact Held.cell (by assumption) s1 | exact Held.cell (by assumption) s2 | exact Held.cell (by assumption) s3 | exact Held.cell (by assumption) s4 | exact Held.cell (by assumption) s5 | exact Held.cell (by assumption) s6 | exact (by assumption))
          (first | (go_at_call 70; refine (admit_any _ _ _ _ _ _ (L.take k) _ _ _ _ _ (HDS.out.held ((W0.out.step hh).step (Held.alloc (Held.refl wr) _).drew)) (by omega)).mono ?_; rintro e w3 ⟨rfl, h3⟩; rw [HAD.out]; have h4 : Held (wr.alloc (.cells #[.int .i64 r, .int .i64 l, .int .i64 cc, .int .i64 g] 23)) w3 := (Held.drew (Held.refl _)).step h3))
        go_wp2
        go_roundw
        case rel => exact ⟨k + 1, by omega, by go_num, H2.out, (hh.alloc _).step ‹Held (wr.alloc _) _›⟩
        case measure => simp [intOf]; omega
      · have ha' : (ad != 0) = true := by simp [ha]
        have H2 : Hid (fitsTo m c up L (k + 1) = false) := show _ = _ by rw [HS.out, HT.out]; simp [ha]
        have H3 : Hid (fits m c up L = false) := show _ = _ by rw [HF.out]; exact fits_no H2.out len (by omega)
        clear ha
        go_wp2
        go_region_held3 (fun w' => w'.cell? ⟨w.heap.size, 0, none⟩ = some (.int .i64 m) ∧ w'.cell? ⟨w.heap.size, 1, none⟩ = some (.int .i64 c) ∧ w'.cell? ⟨w.heap.size, 2, none⟩ = some (.bool up) ∧
            w'.cell? ⟨wr.heap.size, 0, none⟩ = some (.int .i64 r) ∧ w'.cell? ⟨wr.heap.size, 1, none⟩ = some (.int .i64 l) ∧ w'.cell? ⟨wr.heap.size, 2, none⟩ = some (.int .i64 cc) ∧ w'.cell? ⟨wr.heap.size, 3, none⟩ = some (.int .i64 g) ∧ Held (wr.alloc (.cells #[.int .i64 r, .int .i64 l, .int .i64 cc, .int .i64 g] 23)) w')
          ((repeat' refine And.intro ?_ ?_) <;> first | exact s0 | exact s1 | exact s2 | exact s3 | exact s4 | exact s5 | exact s6 | exact (Held.refl _).drew | exact Held.cell (by assumption) s0 | exact Held.cell (by assumption) s1 | exact Held.cell (by assumption) s2 | exact Held.cell (by assumption) s3 | exact Held.cell (by assumption) s4 | exact Held.cell (by assumption) s5 | exact Held.cell (by assumption) s6 | exact (by assumption))
          (first | (go_at_call 70; refine (admit_any _ _ _ _ _ _ (L.take k) _ _ _ _ _ (HDS.out.held ((W0.out.step hh).step (Held.alloc (Held.refl wr) _).drew)) (by omega)).mono ?_; rintro e w3 ⟨rfl, h3⟩; rw [HAD.out]; have h4 : Held (wr.alloc (.cells #[.int .i64 r, .int .i64 l, .int .i64 cc, .int .i64 g] 23)) w3 := (Held.drew (Held.refl _)).step h3))
        go_wp2
        go_ret
        exact ⟨by rw [H3.out]; rfl, (W0.out.step hh).step (((Held.refl _).alloc _).step ‹Held (wr.alloc _) _›)⟩
    · obtain rfl : k = len := by omega
      go_wp2
      go_ret
      exact ⟨by rw [HF.out, HT.out]; rfl, W0.out.step hh⟩
end Adm
end Go.Proofs.Ytmmnanmegdflgaa

namespace Go.Proofs.Ytmmnanmegdflgaa
open Go.RowKit
set_option linter.unusedVariables false
set_option maxRecDepth 100000
namespace Adm
open Ad
theorem fits_short {m c : Int} {up : Bool} {L : List Dem} {k : Nat} {d : Dem} (hk : k < L.length) (h : admit m c up (L.take k) d = 0) : k ≤ 16 := by
  rcases Nat.lt_or_ge 16 k with h16 | h16
  · have hv : valid m c (L.take k) = false := by
      unfold valid
      rw [show decide ((L.take k).length ≤ 16) = false by rw [List.length_take]; simp; omega]; simp
    unfold admit at h
    rw [hv, Bool.false_and, if_pos rfl] at h
    cases h
  · exact h16
theorem fits_ref_any (m c : Int) (up : Bool) (A : Option Addr) (len cap : Nat) (L : List Dem) (w : World) (hd : Ds w A len L) (hlen : (len : Int) ≤ 100) (hcap : len ≤ cap) :
    Calls Try.prog 61 #[.agg #[.int .i64 m, .int .i64 c, .bool up], .slice A len cap] w fun e w' => e = .returned (.bool (fits m c up L)) ∧ Held w w' := by
  have HL := Lib.hid hd.1
  have HD := Lib.hid hd
  clear hd
  have W0 := Lib.hid ((Held.refl w).alloc (.cells #[.int .i64 m, .int .i64 c, .bool up] 25))
  have HF : Hid (fits m c up L = fitsTo m c up L len) := show _ = _ by unfold fits; rw [HL.out]
  go_enter Try.func61, Try.ntmps61
  go_wp2
  go_loopw [5] (fun i wr => ∃ k : Nat, k ≤ len ∧ k ≤ 17 ∧ i = .int .i64 k ∧ fitsTo m c up L k = true ∧ Held (w.alloc (.cells #[.int .i64 m, .int .i64 c, .bool up] 25)) wr) (fun i _ => len - (intOf i).toNat)
  case atStart => exact ⟨0, Nat.zero_le _, Nat.zero_le _, rfl, rfl, Held.refl _⟩
  case round =>
    obtain ⟨k, hk, hk17, rfl, hft, hh⟩ := hrel
    have HT := Lib.hid hft
    clear hft
    by_cases hlt : k < len
    · obtain ⟨b, off, r, l, cc, g, rfl, hk?, q0, q1, q2, q3⟩ := HD.out.at_ (W0.out.step hh) hlt
      have HS : Hid (fitsTo m c up L (k + 1) = (fitsTo m c up L k && decide (admit m c up (L.take k) ⟨r, l, cc, g⟩ = 0))) := fits_at hk?
      have b0 : wr.cell? ⟨w.heap.size, 0, none⟩ = some (.int .i64 m) := hh.cell (by simp)
      have b1 : wr.cell? ⟨w.heap.size, 1, none⟩ = some (.int .i64 c) := hh.cell (by simp)
      have b2 : wr.cell? ⟨w.heap.size, 2, none⟩ = some (.bool up) := hh.cell (by simp)
      have hDs := HD.out.take hk
      have HDS := Lib.hid hDs
      clear hk? hDs
      have hkc : (k : Int) ≤ cap := by omega
      have hkl : (k : Int) < len := by omega
      obtain ⟨ad, had⟩ : ∃ x, admit m c up (L.take k) ⟨r, l, cc, g⟩ = x := ⟨_, rfl⟩
      have HAD := Lib.hid had
      rw [had] at HS
      clear had
      by_cases ha : ad = 0
      · have ha' : (ad != 0) = false := by simp [ha]
        have H2 : Hid (fitsTo m c up L (k + 1) = true) := show _ = _ by rw [HS.out, HT.out]; simp [ha]
        have hk16 : k ≤ 16 := fits_short (by rw [HL.out]; exact hlt) (by rw [HAD.out, ha])
        clear ha
        go_wp2
        go_region_held3 (fun w' => w'.cell? ⟨w.heap.size, 0, none⟩ = some (.int .i64 m) ∧ w'.cell? ⟨w.heap.size, 1, none⟩ = some (.int .i64 c) ∧ w'.cell? ⟨w.heap.size, 2, none⟩ = some (.bool up) ∧
            w'.cell? ⟨b, off + k * 4, none⟩ = some (.int .i64 r) ∧ w'.cell? ⟨b, off + k * 4 + 1, none⟩ = some (.int .i64 l) ∧ w'.cell? ⟨b, off + k * 4 + 2, none⟩ = some (.int .i64 cc) ∧ w'.cell? ⟨b, off + k * 4 + 3, none⟩ = some (.int .i64 g) ∧ Held wr w')
          ((repeat' refine And.intro ?_ ?_) <;> first | exact b0 | exact b1 | exact b2 | exact q0 | exact q1 | exact q2 | exact q3 | exact (Held.refl _).drew | exact Held.cell (by assumption) b0 | exact Held.cell (by assumption) b1 | exact Held.cell (by assumption) b2 | exact Held.cell (by assumption) q0 | exact Held.cell (by assumption) q1 | exact Held.cell (by assumption) q2 | exact Held.cell (by assumption) q3 | exact (by assumption))
          (first | (go_at_call 74; refine (admit_ref_any _ _ _ _ _ _ (L.take k) _ _ _ _ _ (HDS.out.held ((W0.out.step hh).drew)) (by omega)).mono ?_; rintro e w3 ⟨rfl, h3⟩; rw [HAD.out]; have h4 : Held wr w3 := (Held.drew (Held.refl _)).step h3))
        go_wp2
        go_roundw
        case rel => exact ⟨k + 1, by omega, by omega, by go_num, H2.out, hh.step ‹Held wr _›⟩
        case measure => simp [intOf]; omega
      · have ha' : (ad != 0) = true := by simp [ha]
        have H2 : Hid (fitsTo m c up L (k + 1) = false) := show _ = _ by rw [HS.out, HT.out]; simp [ha]
        have H3 : Hid (fits m c up L = false) := show _ = _ by rw [HF.out]; exact fits_no H2.out len (by omega)
        clear ha
        go_wp2
        go_region_held3 (fun w' => w'.cell? ⟨w.heap.size, 0, none⟩ = some (.int .i64 m) ∧ w'.cell? ⟨w.heap.size, 1, none⟩ = some (.int .i64 c) ∧ w'.cell? ⟨w.heap.size, 2, none⟩ = some (.bool up) ∧
            w'.cell? ⟨b, off + k * 4, none⟩ = some (.int .i64 r) ∧ w'.cell? ⟨b, off + k * 4 + 1, none⟩ = some (.int .i64 l) ∧ w'.cell? ⟨b, off + k * 4 + 2, none⟩ = some (.int .i64 cc) ∧ w'.cell? ⟨b, off + k * 4 + 3, none⟩ = some (.int .i64 g) ∧ Held wr w')
          ((repeat' refine And.intro ?_ ?_) <;> first | exact b0 | exact b1 | exact b2 | exact q0 | exact q1 | exact q2 | exact q3 | exact (Held.refl _).drew | exact Held.cell (by assumption) b0 | exact Held.cell (by assumption) b1 | exact Held.cell (by assumption) b2 | exact Held.cell (by assumption) q0 | exact Held.cell (by assumption) q1 | exact Held.cell (by assumption) q2 | exact Held.cell (by assumption) q3 | exact (by assumption))
          (first | (go_at_call 74; refine (admit_ref_any _ _ _ _ _ _ (L.take k) _ _ _ _ _ (HDS.out.held ((W0.out.step hh).drew)) (by omega)).mono ?_; rintro e w3 ⟨rfl, h3⟩; rw [HAD.out]; have h4 : Held wr w3 := (Held.drew (Held.refl _)).step h3))
        go_wp2
        go_ret
        exact ⟨by rw [H3.out]; rfl, (W0.out.step hh).step ‹Held wr _›⟩
    · obtain rfl : k = len := by omega
      go_wp2
      go_ret
      exact ⟨by rw [HF.out, HT.out]; rfl, W0.out.step hh⟩
end Adm
end Go.Proofs.Ytmmnanmegdflgaa
