/-
  Contracts: the guests of a host (chapter 40), program and reference.
-/
import Derived.Test.YtmmjofdienoobaaProg
import Derived.Test.YtmmjofdienoobaaBaP
import Derived.Test.YtmmjofdienoobaaAdm4
import Derived.Test.YtmmjofdienoobaaMem3
import Derived.WalkSpells
import Derived.WalkLawsBesides
import Derived.BigQuiet
import Derived.Outline
import Derived.Deep.RegionHeld3
namespace Go.Proofs.Ytmmjofdienoobaa
open Go.RowKit
set_option linter.unusedVariables false
set_option linter.unusedSimpArgs false
set_option maxRecDepth 100000
namespace Ba
open Ad Adm
def demC (d : Dem) : List Value := [.int .i64 d.r, .int .i64 d.l, .int .i64 d.c, .int .i64 d.g]
theorem demC_len (x : Dem) : (demC x).length = 4 := rfl
theorem demC_one (x : Dem) : ∀ u ∈ demC x, u.oneCell' = true := by intro u hu; simp [demC] at hu; rcases hu with rfl | rfl | rfl | rfl <;> rfl
theorem info_dem : (Try.prog.info? 43).map (fun i => (i.zero, i.size, i.bytes)) = some (some (.agg #[.int .i64 0, .int .i64 0, .int .i64 0, .int .i64 0]), 4, 32) := by kernel_rfl
theorem info_int : (Try.prog.info? 3).map (fun i => (i.zero, i.size, i.bytes)) = some (some (.int .i64 0), 1, 8) := by kernel_rfl
theorem info_mv : (Try.prog.info? 37).map (fun i => (i.zero, i.size, i.bytes)) = some (some (.agg #[.int .i64 0, .int .i64 0, .int .i64 0]), 3, 24) := by kernel_rfl
theorem ds_of_sl {w : World} {A : Option Addr} {n : Nat} {L : List Dem} (h : Sl 4 demC w A n L) : Ds w A n L := by
  refine ⟨h.1, h.2.imp id ?_⟩
  rintro ⟨b, off, e, hb, hc⟩
  exact ⟨b, off, e, fun k hk => ⟨hc k hk 0 _ rfl, hc k hk 1 _ rfl, hc k hk 2 _ rfl, hc k hk 3 _ rfl⟩⟩
/-- A list handed back in a slice of the call's own. -/
def Mks {α : Type} (e : TypeId) (s : Nat) (f : α → List Value) (L : List α) (w : World) (r : Ending) (w' : World) : Prop := ∃ A cap, r = .returned (.slice A L.length cap) ∧ L.length ≤ cap ∧ Own e s f w.heap.size w' (.slice A L.length cap) L ∧ Held w w'
theorem Mks.mk {α : Type} {e : TypeId} {s : Nat} {f : α → List Value} {L : List α} {w w' : World} {v : Value} (ho : Own e s f w.heap.size w' v L) (hh : Held w w') : Mks e s f L w (.returned v) w' := by
  obtain ⟨A, cap, rfl, hc, _⟩ := ho.shape
  exact ⟨A, cap, rfl, hc, ho, hh⟩
abbrev MkDs := Mks 43 4 demC
abbrev MkIs := Mks 3 1 inC
abbrev MkMs := Mks 37 3 mvC
/-- An element of a slice of numbers. -/
theorem Sl.at1 {w a : World} {A : Option Addr} {n : Nat} {L : List Int} (h : Sl 1 inC w A n L) (ha : Held w a) {k : Nat} (hk : k < n) :
    ∃ b off x, A = some ⟨b, off, none⟩ ∧ b < w.heap.size ∧ L[k]? = some x ∧ a.cell? ⟨b, off + k, none⟩ = some (.int .i64 x) := by
  obtain ⟨b, off, x, e, hb, hx, hc⟩ := Sl.at_ h ha hk
  have := hc 0 _ rfl
  rw [Nat.add_zero, Nat.mul_one] at this
  exact ⟨b, off, x, e, hb, hx, this⟩
/-- An element of a slice of demands. -/
theorem Sl.at4 {w a : World} {A : Option Addr} {n : Nat} {L : List Dem} (h : Sl 4 demC w A n L) (ha : Held w a) {k : Nat} (hk : k < n) :
    ∃ b off d, A = some ⟨b, off, none⟩ ∧ b < w.heap.size ∧ L[k]? = some d ∧ a.cell? ⟨b, off + k * 4, none⟩ = some (.int .i64 d.r) ∧ a.cell? ⟨b, off + k * 4 + 1, none⟩ = some (.int .i64 d.l) ∧ a.cell? ⟨b, off + k * 4 + 2, none⟩ = some (.int .i64 d.c) ∧ a.cell? ⟨b, off + k * 4 + 3, none⟩ = some (.int .i64 d.g) := by
  obtain ⟨b, off, x, e, hb, hx, hc⟩ := Sl.at_ h ha hk
  exact ⟨b, off, x, e, hb, hx, hc 0 _ rfl, hc 1 _ rfl, hc 2 _ rfl, hc 3 _ rfl⟩
/-- An element of a slice of hosts. -/
theorem Sl.at3 {w a : World} {A : Option Addr} {n : Nat} {L : List Hc} (h : Sl 3 hcC w A n L) (ha : Held w a) {k : Nat} (hk : k < n) :
    ∃ b off d, A = some ⟨b, off, none⟩ ∧ b < w.heap.size ∧ L[k]? = some d ∧ a.cell? ⟨b, off + k * 3, none⟩ = some (.int .i64 d.m) ∧ a.cell? ⟨b, off + k * 3 + 1, none⟩ = some (.int .i64 d.c) ∧ a.cell? ⟨b, off + k * 3 + 2, none⟩ = some (.bool d.up) := by
  obtain ⟨b, off, x, e, hb, hx, hc⟩ := Sl.at_ h ha hk
  exact ⟨b, off, x, e, hb, hx, hc 0 _ rfl, hc 1 _ rfl, hc 2 _ rfl⟩
theorem take_all {α : Type} {L : List α} {k n : Nat} (h : L.length = n) (hk : n ≤ k) : L.take k = L := List.take_of_length_le (by omega)
theorem zip_all {L : List Dem} {on : List Int} {k n : Nat} (h : L.length = n) (hk : n ≤ k) : (L.zip on).take k = L.zip on := List.take_of_length_le (by rw [List.length_zip]; omega)
theorem gu_bd (L : List Dem) (on : List Int) (h : Int) (k n : Nat) (hn : L.length = n) : (gu ((L.zip on).take k) h).length ≤ n := by
  refine Nat.le_trans (gu_len _ _) ?_
  rw [List.length_take, List.length_zip]; omega
set_option maxHeartbeats 4000000 in
theorem guests_any (A : Option Addr) (n cap : Nat) (A2 : Option Addr) (n2 cap2 : Nat) (L : List Dem) (on : List Int) (h : Int) (w : World) (hl : Sl 4 demC w A n L) (ho : Sl 1 inC w A2 n2 on) (hn : n ≤ n2) (hb : (n : Int) ≤ 1000000) :
    Calls Try.prog 35 #[.slice A n cap, .slice A2 n2 cap2, .int .i64 h] w (MkDs (gu (L.zip on) h) w) := by
  have HL := Lib.hid hl
  have HO := Lib.hid ho
  have HE : Hid ((L.zip on).take n = L.zip on) := zip_all hl.1 (Nat.le_refl _)
  have HB := Lib.hid (fun k => gu_bd L on h k n hl.1)
  clear hl ho
  have M0 := Lib.hid ((Mem.start w).nilRow (e := 43) (s := 4) (f := demC))
  go_enter Try.func35, Try.ntmps35
  go_wp2
  go_loopw [7, 12] (fun v i wr => ∃ k : Nat, i = .int .i64 k ∧ k ≤ n ∧ Mem w wr [.row 43 4 demC w.heap.size v (gu ((L.zip on).take k) h)]) (fun _ i _ => n - (intOf i).toNat)
  case atStart => exact ⟨0, rfl, Nat.zero_le _, by simpa [gu] using M0.out⟩
  case round =>
    obtain ⟨k, rfl, hk, M⟩ := hrel
    have M1 := Lib.hid M
    clear M M0
    by_cases hlt : (k : Int) < n
    · obtain ⟨b, off, d, rfl, lb, hd, c0, c1, c2, c3⟩ := Sl.at4 HL.out M1.out.held (k := k) (by omega)
      obtain ⟨b2, off2, x, rfl, lb2, hx, x0⟩ := Sl.at1 HO.out M1.out.held (k := k) (by omega)
      have hs := gu_take L on k d x h hd hx
      have hlen := HB.out k
      have hle := lt_of_cell x0
      simp only at hle
      have nb1 : b2 < wr.heap.size := by omega
      have nb2 : ¬ b2 = wr.heap.size := by omega
      clear hd hx
      by_cases he : x = h
      · have HS : Hid (gu ((L.zip on).take (k + 1)) h = gu ((L.zip on).take k) h ++ [d]) := show _ = _ by rw [hs]; simp [one, he]
        subst he
        have hq : (x == x) = true := by simp
        obtain ⟨ln, hln⟩ : ∃ ln, (gu ((L.zip on).take k) x).length = ln := ⟨_, rfl⟩
        rw [hln] at hlen
        have HLN := Lib.hid hln
        have M2 := Lib.hid (M1.out.alloc #[.int .i64 d.r, .int .i64 d.l, .int .i64 d.c, .int .i64 d.g] 43)
        clear hs hln
        go_wp2_with (at_builtin; refine Mem.wp_app (M2.out.skip _) 0 rfl rfl _ _ _ rfl _ 32 Try.underlying25 info_dem rfl (by decide) demC_len demC_one d ⟨wr.heap.size + 1, 0, none⟩ 1 rfl rfl (cells_new _ (by simp) _ _) ln HLN.out (by omega) (by decide) ?_; intro g4 cp4 w4 M4; have M5 := Lib.hid M4; clear M4)
        go_roundw
        case rel => exact ⟨k + 1, by go_num, by omega, by rw [HS.out]; exact M5.out.take 1⟩
        case measure => (simp [intOf]) <;> omega
      · have HS : Hid (gu ((L.zip on).take (k + 1)) h = gu ((L.zip on).take k) h) := show _ = _ by rw [hs]; simp [one, he]
        have hb : (x == h) = false := by simp [he]
        clear hs he
        go_wp2
        go_roundw
        case rel => exact ⟨k + 1, by go_num, by omega, by rw [HS.out]; exact M1.out.skip _⟩
        case measure => (simp [intOf]) <;> omega
    · obtain rfl : k = n := by omega
      rw [HE.out] at M1
      go_wp2
      go_ret
      exact Mks.mk (M1.out.row 0 rfl) M1.out.held
end Ba
end Go.Proofs.Ytmmjofdienoobaa
