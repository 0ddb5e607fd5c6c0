/-
  Contracts: the functions of admission and of its reference compute the plain functions of Ad.
-/
import Derived.Test.YtmmjofdienoobaaProg
import Derived.Test.YtmmjofdienoobaaAdP
import Derived.Test.YtmmjofdienoobaaRd
import Derived.WalkSpells
import Derived.WalkLawsBesides
import Derived.BigQuiet
import Derived.Deep.QuietTactic
import Derived.Deep.RegionHeld3
namespace Go.Proofs.Ytmmjofdienoobaa
open Go.RowKit
set_option linter.unusedVariables false
set_option maxRecDepth 100000
namespace Adm
open Ad
def cells (L : List Dem) : List Value := L.flatMap fun d => [.int .i64 d.r, .int .i64 d.l, .int .i64 d.c, .int .i64 d.g]
theorem units_any (n : Int) (w : World) : Calls Try.prog 50 #[.int .i64 n] w fun e w' => e = .returned (.bool (units n)) ∧ w = w' := by
  by_cases h1 : 0 ≤ n
  · by_cases h2 : n ≤ 1000000
    · have H : Hid (units n = true) := by unfold Hid units; simp [h1, h2]
      go_enter Try.func50, Try.ntmps50
      go_wp2
      go_ret
      exact ⟨by rw [H.out]; rfl, rfl⟩
    · have H : Hid (units n = false) := by unfold Hid units; simp [h2]
      go_enter Try.func50, Try.ntmps50
      go_wp2
      go_ret
      exact ⟨by rw [H.out]; rfl, rfl⟩
  · have H : Hid (units n = false) := by unfold Hid units; simp [h1]
    go_enter Try.func50, Try.ntmps50
    go_wp2
    go_ret
    exact ⟨by rw [H.out]; rfl, rfl⟩
theorem unit_any (n : Int) (w : World) : Calls Try.prog 63 #[.int .i64 n] w fun e w' => e = .returned (.bool (units n)) ∧ w = w' := by
  by_cases h1 : 0 ≤ n
  · by_cases h2 : n ≤ 1000000
    · have H : Hid (units n = true) := by unfold Hid units; simp [h1, h2]
      go_enter Try.func63, Try.ntmps63
      go_wp2
      go_ret
      exact ⟨by rw [H.out]; rfl, rfl⟩
    · have H : Hid (units n = false) := by unfold Hid units; simp [h2]
      go_enter Try.func63, Try.ntmps63
      go_wp2
      go_ret
      exact ⟨by rw [H.out]; rfl, rfl⟩
  · have H : Hid (units n = false) := by unfold Hid units; simp [h1]
    go_enter Try.func63, Try.ntmps63
    go_wp2
    go_ret
    exact ⟨by rw [H.out]; rfl, rfl⟩
/-- The slice value '.slice A n _' holds the demands L. -/
def Ds (w : World) (A : Option Addr) (n : Nat) (L : List Dem) : Prop :=
  L.length = n ∧ (n = 0 ∨ ∃ b off, A = some ⟨b, off, none⟩ ∧ ∀ k (h : k < L.length), w.cell? ⟨b, off + k * 4, none⟩ = some (.int .i64 L[k].r) ∧ w.cell? ⟨b, off + k * 4 + 1, none⟩ = some (.int .i64 L[k].l) ∧
    w.cell? ⟨b, off + k * 4 + 2, none⟩ = some (.int .i64 L[k].c) ∧ w.cell? ⟨b, off + k * 4 + 3, none⟩ = some (.int .i64 L[k].g))
theorem Ds.held {w a : World} {A : Option Addr} {n : Nat} {L : List Dem} (h : Ds w A n L) (ha : Held w a) : Ds a A n L :=
  ⟨h.1, h.2.imp id fun ⟨b, off, e, hc⟩ => ⟨b, off, e, fun k hk => ⟨ha.cell (hc k hk).1, ha.cell (hc k hk).2.1, ha.cell (hc k hk).2.2.1, ha.cell (hc k hk).2.2.2⟩⟩⟩
theorem Ds.take {w : World} {A : Option Addr} {n : Nat} {L : List Dem} (h : Ds w A n L) {k : Nat} (hk : k ≤ n) : Ds w A k (L.take k) := by
  refine ⟨by rw [List.length_take, h.1]; omega, ?_⟩
  rcases h.2 with h0 | ⟨b, off, e, hc⟩
  · exact .inl (by omega)
  · refine .inr ⟨b, off, e, fun j hj => ?_⟩
    simp only [List.length_take] at hj
    simp only [List.getElem_take]
    exact hc j (by omega)
/-- The four cells of an element, in whatever later world. -/
theorem Ds.at_ {w a : World} {A : Option Addr} {n : Nat} {L : List Dem} (h : Ds w A n L) (ha : Held w a) {k : Nat} (hk : k < n) : ∃ b off r l c g, A = some ⟨b, off, none⟩ ∧ L[k]? = some ⟨r, l, c, g⟩ ∧
    a.cell? ⟨b, off + k * 4, none⟩ = some (.int .i64 r) ∧ a.cell? ⟨b, off + k * 4 + 1, none⟩ = some (.int .i64 l) ∧ a.cell? ⟨b, off + k * 4 + 2, none⟩ = some (.int .i64 c) ∧ a.cell? ⟨b, off + k * 4 + 3, none⟩ = some (.int .i64 g) := by
  rcases h.2 with h0 | ⟨b, off, e, hc⟩
  · omega
  · have hl : k < L.length := by rw [h.1]; exact hk
    exact ⟨b, off, L[k].r, L[k].l, L[k].c, L[k].g, e, List.getElem?_eq_getElem hl, ha.cell (hc k hl).1, ha.cell (hc k hl).2.1, ha.cell (hc k hl).2.2.1, ha.cell (hc k hl).2.2.2⟩

theorem vd_any (r l c g : Int) (w : World) : Calls Try.prog 27 #[.agg #[.int .i64 r, .int .i64 l, .int .i64 c, .int .i64 g]] w fun e w' => e = .returned (.bool (vd ⟨r, l, c, g⟩)) ∧ Held w w' := by
  by_cases h1 : 0 ≤ r
  · by_cases h2 : r ≤ l
    · cases h3 : units l
      · have H : Hid (vd ⟨r, l, c, g⟩ = false) := by unfold Hid vd; simp [h3]
        go_enter Try.func27, Try.ntmps27
        go_wp2_with (go_at_call 50; refine (units_any _ _).mono ?_; rintro e w' ⟨rfl, rfl⟩)
        go_ret
        exact ⟨by rw [H.out]; rfl, (Held.refl _).alloc _⟩
      · cases h4 : units c
        · have H : Hid (vd ⟨r, l, c, g⟩ = false) := by unfold Hid vd; simp [h4]
          go_enter Try.func27, Try.ntmps27
          go_wp2_with (go_at_call 50; refine (units_any _ _).mono ?_; rintro e w' ⟨rfl, rfl⟩)
          go_ret
          exact ⟨by rw [H.out]; rfl, (Held.refl _).alloc _⟩
        · have H : Hid (vd ⟨r, l, c, g⟩ = decide (0 ≤ g)) := by unfold Hid vd; simp [h1, h2, h3, h4]
          go_enter Try.func27, Try.ntmps27
          go_wp2_with (go_at_call 50; refine (units_any _ _).mono ?_; rintro e w' ⟨rfl, rfl⟩)
          go_ret
          exact ⟨by rw [H.out]; rfl, (Held.refl _).alloc _⟩
    · have H : Hid (vd ⟨r, l, c, g⟩ = false) := by unfold Hid vd; simp [h2]
      go_enter Try.func27, Try.ntmps27
      go_wp2
      go_ret
      exact ⟨by rw [H.out]; rfl, (Held.refl _).alloc _⟩
  · have H : Hid (vd ⟨r, l, c, g⟩ = false) := by unfold Hid vd; simp [h1]
    go_enter Try.func27, Try.ntmps27
    go_wp2
    go_ret
    exact ⟨by rw [H.out]; rfl, (Held.refl _).alloc _⟩
theorem vd_ref_any (r l c g : Int) (w : World) : Calls Try.prog 64 #[.agg #[.int .i64 r, .int .i64 l, .int .i64 c, .int .i64 g]] w fun e w' => e = .returned (.bool (vd ⟨r, l, c, g⟩)) ∧ Held w w' := by
  cases h3 : units l
  · have H : Hid (vd ⟨r, l, c, g⟩ = false) := by unfold Hid vd; simp [h3]
    go_enter Try.func64, Try.ntmps64
    go_wp2_with (go_at_call 63; refine (unit_any _ _).mono ?_; rintro e w' ⟨rfl, rfl⟩)
    go_ret
    exact ⟨by rw [H.out]; rfl, (Held.refl _).alloc _⟩
  · cases h4 : units c
    · have H : Hid (vd ⟨r, l, c, g⟩ = false) := by unfold Hid vd; simp [h4]
      go_enter Try.func64, Try.ntmps64
      go_wp2_with (go_at_call 63; refine (unit_any _ _).mono ?_; rintro e w' ⟨rfl, rfl⟩)
      go_ret
      exact ⟨by rw [H.out]; rfl, (Held.refl _).alloc _⟩
    · by_cases h1 : 0 ≤ r
      · by_cases h2 : r ≤ l
        · have H : Hid (vd ⟨r, l, c, g⟩ = decide (0 ≤ g)) := by unfold Hid vd; simp [h1, h2, h3, h4]
          go_enter Try.func64, Try.ntmps64
          go_wp2_with (go_at_call 63; refine (unit_any _ _).mono ?_; rintro e w' ⟨rfl, rfl⟩)
          go_ret
          exact ⟨by rw [H.out]; rfl, (Held.refl _).alloc _⟩
        · have H : Hid (vd ⟨r, l, c, g⟩ = false) := by unfold Hid vd; simp [h2]
          go_enter Try.func64, Try.ntmps64
          go_wp2_with (go_at_call 63; refine (unit_any _ _).mono ?_; rintro e w' ⟨rfl, rfl⟩)
          go_ret
          exact ⟨by rw [H.out]; rfl, (Held.refl _).alloc _⟩
      · have H : Hid (vd ⟨r, l, c, g⟩ = false) := by unfold Hid vd; simp [h1]
        go_enter Try.func64, Try.ntmps64
        go_wp2_with (go_at_call 63; refine (unit_any _ _).mono ?_; rintro e w' ⟨rfl, rfl⟩)
        go_ret
        exact ⟨by rw [H.out]; rfl, (Held.refl _).alloc _⟩
theorem vh_any (m c : Int) (up : Bool) (w : World) : Calls Try.prog 48 #[.agg #[.int .i64 m, .int .i64 c, .bool up]] w fun e w' => e = .returned (.bool (vh m c)) ∧ Held w w' := by
  cases h3 : units m
  · have H : Hid (vh m c = false) := by unfold Hid vh; simp [h3]
    go_enter Try.func48, Try.ntmps48
    go_wp2_with (go_at_call 50; refine (units_any _ _).mono ?_; rintro e w' ⟨rfl, rfl⟩)
    go_ret
    exact ⟨by rw [H.out]; rfl, (Held.refl _).alloc _⟩
  · have H : Hid (vh m c = units c) := by unfold Hid vh; simp [h3]
    go_enter Try.func48, Try.ntmps48
    go_wp2_with (go_at_call 50; refine (units_any _ _).mono ?_; rintro e w' ⟨rfl, rfl⟩)
    go_ret
    exact ⟨by rw [H.out]; rfl, (Held.refl _).alloc _⟩
theorem vh_ref_any (m c : Int) (up : Bool) (w : World) : Calls Try.prog 58 #[.agg #[.int .i64 m, .int .i64 c, .bool up]] w fun e w' => e = .returned (.bool (vh m c)) ∧ Held w w' := by
  cases h3 : units m
  · have H : Hid (vh m c = false) := by unfold Hid vh; simp [h3]
    go_enter Try.func58, Try.ntmps58
    go_wp2_with (go_at_call 63; refine (unit_any _ _).mono ?_; rintro e w' ⟨rfl, rfl⟩)
    go_ret
    exact ⟨by rw [H.out]; rfl, (Held.refl _).alloc _⟩
  · have H : Hid (vh m c = units c) := by unfold Hid vh; simp [h3]
    go_enter Try.func58, Try.ntmps58
    go_wp2_with (go_at_call 63; refine (unit_any _ _).mono ?_; rintro e w' ⟨rfl, rfl⟩)
    go_ret
    exact ⟨by rw [H.out]; rfl, (Held.refl _).alloc _⟩
theorem demands_any (A : Option Addr) (len cap : Nat) (L : List Dem) (w : World) (hd : Ds w A len L) (hlen : (len : Int) ≤ 100) :
    Calls Try.prog 59 #[.slice A len cap] w fun e w' => e = .returned (.bool (decide (L.length ≤ 16) && L.all vd)) ∧ Held w w' := by
  have HL := Lib.hid hd.1
  have HD := Lib.hid hd
  clear hd
  by_cases h16 : (16 : Int) < len
  · have H : Hid ((decide (L.length ≤ 16) && L.all vd) = false) := show _ = _ by rw [HL.out]; simp; omega
    go_enter Try.func59, Try.ntmps59
    go_wp2
    go_ret
    exact ⟨by rw [H.out]; rfl, Held.refl _⟩
  · have H : Hid ((decide (L.length ≤ 16) && L.all vd) = L.all vd) := show _ = _ by rw [show decide (L.length ≤ 16) = true by rw [HL.out]; simp; omega]; rfl
    go_enter Try.func59, Try.ntmps59
    go_wp2
    go_loopw [3] (fun i wr => ∃ k : Nat, k ≤ len ∧ i = .int .i64 k ∧ (L.take k).all vd = true ∧ Held w wr) (fun i _ => len - (intOf i).toNat)
    case atStart => exact ⟨0, Nat.zero_le _, rfl, rfl, Held.refl _⟩
    case round =>
      obtain ⟨k, hk, rfl, hall, hh⟩ := hrel
      have HA := Lib.hid hall
      clear hall
      by_cases hlt : k < len
      · obtain ⟨b, off, r, l, c, g, rfl, hk?, c0, c1, c2, c3⟩ := HD.out.at_ hh hlt
        have hkL : k < L.length := by rw [HL.out]; exact hlt
        have hs : (L.take (k + 1)).all vd = vd ⟨r, l, c, g⟩ := by
          rw [all_snoc L k hkL, HA.out, (List.getElem?_eq_some_iff.1 hk?).2]; rfl
        have HS := Lib.hid hs
        clear hk? hs hkL
        cases hv : vd ⟨r, l, c, g⟩
        · have H2 : Hid (L.all vd = false) := by
            have h1 := HS.out; rw [hv] at h1
            show L.all vd = false
            cases h2 : L.all vd
            · rfl
            · rw [all_take h2] at h1; cases h1
          go_wp2_with (go_at_call 64; refine (vd_ref_any _ _ _ _ _).mono ?_; rintro e w1 ⟨rfl, h1⟩)
          go_ret
          exact ⟨by rw [H.out, H2.out]; rfl, hh.step h1⟩
        · go_wp2_with (go_at_call 64; refine (vd_ref_any _ _ _ _ _).mono ?_; rintro e w1 ⟨rfl, h1⟩)
          go_roundw
          case rel => exact ⟨k + 1, by omega, by go_num, by rw [HS.out, hv], hh.step h1⟩
          case measure => simp [intOf]; omega
      · obtain rfl : k = len := by omega
        have H2 : Hid (L.all vd = true) := show _ = _ by rw [← all_len, HL.out]; exact HA.out
        go_wp2
        go_ret
        exact ⟨by rw [H.out, H2.out]; rfl, hh⟩
theorem valid_eq (m c : Int) (L : List Dem) : valid m c L = (vh m c && (decide (L.length ≤ 16) && L.all vd)) := by unfold valid; rw [Bool.and_assoc]
theorem valid_any (m c : Int) (up : Bool) (A : Option Addr) (len cap : Nat) (L : List Dem) (w : World) (hd : Ds w A len L) (hlen : (len : Int) ≤ 100) :
    Calls Try.prog 37 #[.agg #[.int .i64 m, .int .i64 c, .bool up], .slice A len cap] w fun e w' => e = .returned (.bool (valid m c L)) ∧ Held w w' := by
  have HL := Lib.hid hd.1
  have HD := Lib.hid hd
  have HV := Lib.hid (valid_eq m c L)
  clear hd
  cases hvh : vh m c
  · have H : Hid (valid m c L = false) := show _ = _ by rw [HV.out, hvh]; rfl
    go_enter Try.func37, Try.ntmps37
    go_wp2_with (go_at_call 48; refine (vh_any _ _ _ _).mono ?_; rintro e w1 ⟨rfl, h1⟩)
    go_ret
    exact ⟨by rw [H.out]; rfl, ((Held.refl _).alloc _).step h1⟩
  · by_cases h16 : (16 : Int) < len
    · have H : Hid (valid m c L = false) := show _ = _ by rw [HV.out, hvh, HL.out]; simp; omega
      go_enter Try.func37, Try.ntmps37
      go_wp2_with (go_at_call 48; refine (vh_any _ _ _ _).mono ?_; rintro e w1 ⟨rfl, h1⟩)
      go_ret
      exact ⟨by rw [H.out]; rfl, ((Held.refl _).alloc _).step h1⟩
    · have H : Hid (valid m c L = L.all vd) := show _ = _ by rw [HV.out, hvh, show decide (L.length ≤ 16) = true by rw [HL.out]; simp; omega]; rfl
      go_enter Try.func37, Try.ntmps37
      go_wp2_with (go_at_call 48; refine (vh_any _ _ _ _).mono ?_; rintro e w1 ⟨rfl, h1⟩)
      have hw1 : Held w w1 := ((Held.refl _).alloc _).step h1
      have HW1 := Lib.hid hw1
      clear hw1 h1
      go_loopw [17] (fun i wr => ∃ k : Nat, k ≤ len ∧ i = .int .i64 k ∧ (L.take k).all vd = true ∧ Held w wr) (fun i _ => len - (intOf i).toNat)
      case atStart => exact ⟨0, Nat.zero_le _, rfl, rfl, HW1.out⟩
      case round =>
        obtain ⟨k, hk, rfl, hall, hh⟩ := hrel
        have HA := Lib.hid hall
        clear hall
        by_cases hlt : k < len
        · obtain ⟨b, off, r, l, c, g, rfl, hk?, c0, c1, c2, c3⟩ := HD.out.at_ hh hlt
          have hkL : k < L.length := by rw [HL.out]; exact hlt
          have hs : (L.take (k + 1)).all vd = vd ⟨r, l, c, g⟩ := by
            rw [all_snoc L k hkL, HA.out, (List.getElem?_eq_some_iff.1 hk?).2]; rfl
          have HS := Lib.hid hs
          clear hk? hs hkL
          cases hv : vd ⟨r, l, c, g⟩
          · have H2 : Hid (L.all vd = false) := by
              have h1 := HS.out; rw [hv] at h1
              show L.all vd = false
              cases h2 : L.all vd
              · rfl
              · rw [all_take h2] at h1; cases h1
            go_wp2_with (go_at_call 27; refine (vd_any _ _ _ _ _).mono ?_; rintro e w1 ⟨rfl, h1⟩)
            go_ret
            exact ⟨by rw [H.out, H2.out]; rfl, (hh.alloc _).step h1⟩
          · go_wp2_with (go_at_call 27; refine (vd_any _ _ _ _ _).mono ?_; rintro e w1 ⟨rfl, h1⟩)
            go_roundw
            case rel => exact ⟨k + 1, by omega, by go_num, by rw [HS.out, hv], (hh.alloc _).step h1⟩
            case measure => simp [intOf]; omega
        · obtain rfl : k = len := by omega
          have H2 : Hid (L.all vd = true) := show _ = _ by rw [← all_len, HL.out]; exact HA.out
          go_wp2
          go_ret
          exact ⟨by rw [H.out, H2.out]; rfl, hh⟩

theorem sumR_at (L : List Dem) (k : Nat) (d : Dem) (h : L[k]? = some d) : sumR (L.take (k + 1)) = sumR (L.take k) + d.r := by
  obtain ⟨hk, rfl⟩ := List.getElem?_eq_some_iff.1 h
  rw [take_snoc L k hk, sumR_snoc]
theorem sumC_at (L : List Dem) (k : Nat) (d : Dem) (h : L[k]? = some d) : sumC (L.take (k + 1)) = sumC (L.take k) + d.c := by
  obtain ⟨hk, rfl⟩ := List.getElem?_eq_some_iff.1 h
  rw [take_snoc L k hk, sumC_snoc]
theorem ret_two {a b c d : Int} (h : a = b) (h' : c = d) : Ending.returned (.tuple #[.int .i64 a, .int .i64 c]) = .returned (.tuple #[.int .i64 b, .int .i64 d]) := by rw [h, h']
theorem int_eq {a b : Int} (h : a = b) : Value.int .i64 a = .int .i64 b := by rw [h]
theorem valid_parts {m c : Int} {L : List Dem} (h : valid m c L = true) : (0 ≤ m ∧ m ≤ 1000000) ∧ (0 ≤ c ∧ c ≤ 1000000) ∧ L.length ≤ 16 ∧ L.all vd = true := by
  simp only [valid, vh, Bool.and_eq_true, decide_eq_true_eq] at h
  exact ⟨(units_iff _).1 h.1.1.1, (units_iff _).1 h.1.1.2, h.1.2, h.2⟩

theorem free_any (m c : Int) (up : Bool) (A : Option Addr) (len cap : Nat) (L : List Dem) (w : World) (hd : Ds w A len L) (hlen : (len : Int) ≤ 100) :
    Calls Try.prog 17 #[.agg #[.int .i64 m, .int .i64 c, .bool up], .slice A len cap] w fun e w' => e = .returned (.tuple #[.int .i64 (freeM m c L), .int .i64 (freeC m c L)]) ∧ Held w w' := by
  have HL := Lib.hid hd.1
  have HD := Lib.hid hd
  have hd' := hd.held ((Held.refl w).alloc (.cells #[.int .i64 m, .int .i64 c, .bool up] 47))
  have HD' := Lib.hid hd'
  clear hd hd'
  cases hv : valid m c L
  · have H1 : Hid (freeM m c L = 0) := show (if valid m c L then _ else _) = _ by rw [hv]; rfl
    have H2 : Hid (freeC m c L = 0) := show (if valid m c L then _ else _) = _ by rw [hv]; rfl
    go_enter Try.func17, Try.ntmps17
    go_wp2_with (go_at_call 37; refine (valid_any _ _ _ _ _ _ L _ HD'.out hlen).mono ?_; rintro e w1 ⟨rfl, h1⟩)
    go_ret2
    exact ⟨by rw [H1.out, H2.out]; rfl, ((Held.refl _).alloc _).step h1⟩
  · have H1 : Hid (freeM m c L = m - sumR L) := show (if valid m c L then _ else _) = _ by rw [hv]; rfl
    have H2 : Hid (freeC m c L = c - sumC L) := show (if valid m c L then _ else _) = _ by rw [hv]; rfl
    have VP := Lib.hid (valid_parts hv)
    go_enter Try.func17, Try.ntmps17
    go_wp2_with (go_at_call 37; refine (valid_any _ _ _ _ _ _ L _ HD'.out hlen).mono ?_; rintro e w1 ⟨rfl, h1⟩; have c0 : w1.cell? ⟨w.heap.size, 0, none⟩ = some (.int .i64 m) := h1.cell (by simp); have c1 : w1.cell? ⟨w.heap.size, 1, none⟩ = some (.int .i64 c) := h1.cell (by simp))
    have hw1 : Held w w1 := ((Held.refl _).alloc _).step h1
    have HW1 := Lib.hid hw1
    clear hw1 h1
    go_quiet (fail)
    go_wp2
    go_loopw [6, 7, 20] (fun x y i wr => ∃ k : Nat, k ≤ len ∧ i = .int .i64 k ∧ x = .int .i64 (m - sumR (L.take k)) ∧ y = .int .i64 (c - sumC (L.take k)) ∧ Held w wr) (fun _ _ i _ => len - (intOf i).toNat)
    case atStart => exact ⟨0, Nat.zero_le _, rfl, int_eq (by simp [sumR]), int_eq (by simp [sumC]), HW1.out.drewN _⟩
    case round =>
      obtain ⟨k, hk, rfl, rfl, rfl, hh⟩ := hrel
      by_cases hlt : k < len
      · obtain ⟨b, off, r, l, cc, g, rfl, hk?, c0, c1, c2, c3⟩ := HD.out.at_ hh hlt
        have hvd : vd ⟨r, l, cc, g⟩ = true := List.all_eq_true.1 VP.out.2.2.2 _ (List.mem_of_getElem? hk?)
        have hbd := vd_bd hvd
        have hr1 : 0 ≤ r := hbd.1
        have hr2 : r ≤ 1000000 := hbd.2.1
        have hc1 : 0 ≤ cc := hbd.2.2.1
        have hc2 : cc ≤ 1000000 := hbd.2.2.2.1
        have hsum := sum_bd (L.take k) (all_take VP.out.2.2.2 k)
        have hlk : (L.take k).length ≤ 16 := Nat.le_trans (List.length_take_le' _ _) VP.out.2.2.1
        have hs1 : 0 ≤ sumR (L.take k) := hsum.1
        have hs2 : sumR (L.take k) ≤ 16000000 := by omega
        have hs3 : 0 ≤ sumC (L.take k) := hsum.2.2.1
        have hs4 : sumC (L.take k) ≤ 16000000 := by omega
        have hm := VP.out.1
        have hc := VP.out.2.1
        have S1 : Hid (sumR (L.take (k + 1)) = sumR (L.take k) + r) := sumR_at L k _ hk?
        have S2 : Hid (sumC (L.take (k + 1)) = sumC (L.take k) + cc) := sumC_at L k _ hk?
        clear hk? hvd hbd hsum hlk
        go_wp2
        go_roundw
        case rel => exact ⟨k + 1, by omega, by go_num, int_eq (by rw [S1.out]; omega), int_eq (by rw [S2.out]; omega), hh.alloc _⟩
        case measure => simp [intOf]; omega
      · obtain rfl : k = len := by omega
        have T1 : Hid (L.take k = L) := show _ = _ by rw [← HL.out, List.take_length]
        go_wp2
        go_ret2
        exact ⟨by rw [H1.out, H2.out]; exact ret_two (by rw [T1.out]) (by rw [T1.out]), hh⟩
theorem free_ref_any (m c : Int) (up : Bool) (A : Option Addr) (len cap : Nat) (L : List Dem) (w : World) (hd : Ds w A len L) (hlen : (len : Int) ≤ 100) :
    Calls Try.prog 60 #[.agg #[.int .i64 m, .int .i64 c, .bool up], .slice A len cap] w fun e w' => e = .returned (.tuple #[.int .i64 (freeM m c L), .int .i64 (freeC m c L)]) ∧ Held w w' := by
  have HL := Lib.hid hd.1
  have HD := Lib.hid hd
  have hd' := fun w1 (h : Held (w.alloc (.cells #[.int .i64 m, .int .i64 c, .bool up] 47)) w1) => hd.held (((Held.refl w).alloc (.cells #[.int .i64 m, .int .i64 c, .bool up] 47)).step h)
  have HD' := Lib.hid hd'
  have HV := Lib.hid (valid_eq m c L)
  clear hd hd'
  cases hv : valid m c L
  · have H1 : Hid (freeM m c L = 0) := show (if valid m c L then _ else _) = _ by rw [hv]; rfl
    have H2 : Hid (freeC m c L = 0) := show (if valid m c L then _ else _) = _ by rw [hv]; rfl
    cases hvh : vh m c
    · go_enter Try.func60, Try.ntmps60
      go_wp2_with (go_at_call 58; refine (vh_ref_any _ _ _ _).mono ?_; rintro e w1 ⟨rfl, h1⟩)
      go_ret2
      exact ⟨by rw [H1.out, H2.out]; rfl, ((Held.refl _).alloc _).step h1⟩
    · have hf : (decide (L.length ≤ 16) && L.all vd) = false := by have := HV.out; rw [hv, hvh] at this; simpa using this.symm
      have HF := Lib.hid hf
      clear hf
      go_enter Try.func60, Try.ntmps60
      go_wp2_with (first | (go_at_call 58; refine (vh_ref_any _ _ _ _).mono ?_; rintro e w1 ⟨rfl, h1⟩) | (go_at_call 59; refine (demands_any _ _ _ L _ (HD'.out _ h1) hlen).mono ?_; rintro e w2 ⟨rfl, h2⟩; rw [HF.out]))
      go_ret2
      exact ⟨by rw [H1.out, H2.out]; rfl, (((Held.refl _).alloc _).step h1).step h2⟩
  · have H1 : Hid (freeM m c L = m - sumR L) := show (if valid m c L then _ else _) = _ by rw [hv]; rfl
    have H2 : Hid (freeC m c L = c - sumC L) := show (if valid m c L then _ else _) = _ by rw [hv]; rfl
    have VP := Lib.hid (valid_parts hv)
    have hvh : vh m c = true := by have := HV.out; rw [hv] at this; simp only [Bool.true_eq, Bool.and_eq_true] at this; exact this.1
    have hf : (decide (L.length ≤ 16) && L.all vd) = true := by have := HV.out; rw [hv, hvh] at this; simpa using this.symm
    have HF := Lib.hid hf
    clear hf
    go_enter Try.func60, Try.ntmps60
    go_wp2_with (first | (go_at_call 58; refine (vh_ref_any _ _ _ _).mono ?_; rintro e w1 ⟨rfl, h1⟩) | (go_at_call 59; refine (demands_any _ _ _ L _ (HD'.out _ h1) hlen).mono ?_; rintro e w2 ⟨rfl, h2⟩; rw [HF.out]; have c0 : w2.cell? ⟨w.heap.size, 0, none⟩ = some (.int .i64 m) := h2.cell (h1.cell (by simp)); have c1 : w2.cell? ⟨w.heap.size, 1, none⟩ = some (.int .i64 c) := h2.cell (h1.cell (by simp))))
    have hw1 : Held w w2 := (((Held.refl _).alloc _).step h1).step h2
    have HW1 := Lib.hid hw1
    clear hw1 h1 h2
    go_quiet (fail)
    go_wp2
    go_loopw [6, 7, 8] (fun x y i wr => ∃ k : Nat, k ≤ len ∧ i = .int .i64 k ∧ x = .int .i64 (m - sumR (L.take k)) ∧ y = .int .i64 (c - sumC (L.take k)) ∧ Held w wr) (fun _ _ i _ => len - (intOf i).toNat)
    case atStart => exact ⟨0, Nat.zero_le _, rfl, int_eq (by simp [sumR]), int_eq (by simp [sumC]), HW1.out.drewN _⟩
    case round =>
      obtain ⟨k, hk, rfl, rfl, rfl, hh⟩ := hrel
      by_cases hlt : k < len
      · obtain ⟨b, off, r, l, cc, g, rfl, hk?, c0, c1, c2, c3⟩ := HD.out.at_ hh hlt
        have hvd : vd ⟨r, l, cc, g⟩ = true := List.all_eq_true.1 VP.out.2.2.2 _ (List.mem_of_getElem? hk?)
        have hbd := vd_bd hvd
        have hr1 : 0 ≤ r := hbd.1
        have hr2 : r ≤ 1000000 := hbd.2.1
        have hc1 : 0 ≤ cc := hbd.2.2.1
        have hc2 : cc ≤ 1000000 := hbd.2.2.2.1
        have hsum := sum_bd (L.take k) (all_take VP.out.2.2.2 k)
        have hlk : (L.take k).length ≤ 16 := Nat.le_trans (List.length_take_le' _ _) VP.out.2.2.1
        have hs1 : 0 ≤ sumR (L.take k) := hsum.1
        have hs2 : sumR (L.take k) ≤ 16000000 := by omega
        have hs3 : 0 ≤ sumC (L.take k) := hsum.2.2.1
        have hs4 : sumC (L.take k) ≤ 16000000 := by omega
        have hm := VP.out.1
        have hc := VP.out.2.1
        have S1 : Hid (sumR (L.take (k + 1)) = sumR (L.take k) + r) := sumR_at L k _ hk?
        have S2 : Hid (sumC (L.take (k + 1)) = sumC (L.take k) + cc) := sumC_at L k _ hk?
        clear hk? hvd hbd hsum hlk
        go_wp2
        go_roundw
        case rel => exact ⟨k + 1, by omega, by go_num, int_eq (by rw [S1.out]; omega), int_eq (by rw [S2.out]; omega), hh⟩
        case measure => simp [intOf]; omega
      · obtain rfl : k = len := by omega
        have T1 : Hid (L.take k = L) := show _ = _ by rw [← HL.out, List.take_length]
        go_wp2
        go_ret2
        exact ⟨by rw [H1.out, H2.out]; exact ret_two (by rw [T1.out]) (by rw [T1.out]), hh⟩
end Adm
end Go.Proofs.Ytmmjofdienoobaa
