/-
  Contract: On of the reference.
-/
import Derived.Test.YtmpbmckigejagaaAdm5
namespace Go.Proofs.Ytmpbmckigejagaa
open Go.RowKit
set_option linter.unusedVariables false
set_option maxRecDepth 100000
namespace Law39
open Ad Adm
theorem on_ref_any (A : Option Addr) (len cap : Nat) (L : List Pl) (h : Int) (w : World) (hp : Ps w A len L) (hl : (len : Int) ≤ 1000) :
    Calls Try.prog 16 #[.slice A len cap, .int .i64 h] w (MakesDs (on L h) w) := by
  have HP := Lib.hid hp
  have HL := Lib.hid hp.1
  clear hp
  go_enter Try.func16, Try.ntmps16
  go_wp2
  go_loopw [5, 6] (fun v i wr => ∃ k : Nat, k ≤ len ∧ i = .int .i64 k ∧ wr.ownsRow w.heap.size 30 4 v (on (L.take k) h).length (cells (on (L.take k) h)) ∧ Held w wr) (fun _ i _ => len - (intOf i).toNat)
  case atStart => exact ⟨0, Nat.zero_le _, rfl, World.ownsRow_nil _ _ _ _, Held.refl _⟩
  case round =>
    obtain ⟨k, hk, rfl, hown, hh⟩ := hrel
    have HO := Lib.hid hown
    have hll : (on (L.take k) h).length ≤ 2000 := by have := on_len (L.take k) h; rw [List.length_take, HL.out] at this; omega
    clear hown
    by_cases hlt : k < len
    · obtain ⟨b, off, nm, r, l, c, g, x, y, rfl, hn, c0, c1, c2, c3, c4, c5, c6⟩ := HP.out.at_ (Held.refl _) hlt
      have HS := Lib.hid (on_snoc L k _ h hn)
      clear hn
      go_wp2
      go_loopw [5, 7] (fun v i w2 => ∃ j : Nat, j ≤ 2 ∧ i = .int .i64 j ∧ w2.ownsRow w.heap.size 30 4 v (on (L.take k) h ++ part nm ⟨r, l, c, g⟩ x y h j).length (cells (on (L.take k) h ++ part nm ⟨r, l, c, g⟩ x y h j)) ∧ Held w w2) (fun _ i _ => 2 - (intOf i).toNat)
      case atStart => exact ⟨0, by omega, rfl, by simpa [part] using HO.out, hh⟩
      case round =>
        obtain ⟨j, hj, rfl, hown2, hh2⟩ := hrel
        have HO2 := Lib.hid hown2
        clear hown2
        have hl2 : (on (L.take k) h ++ part nm ⟨r, l, c, g⟩ x y h j).length ≤ 2002 := by rw [List.length_append]; have := part_len nm ⟨r, l, c, g⟩ x y h j; omega
        have hlw : w.heap.size ≤ wr.heap.size := hh2.le
        have d1 := hh2.cell c1
        have d2 := hh2.cell c2
        have d3 := hh2.cell c3
        have d4 := hh2.cell c4
        have d5 := hh2.cell c5
        have d6 := hh2.cell c6
        obtain rfl | rfl | rfl : j = 0 ∨ j = 1 ∨ j = 2 := by omega
        · by_cases hx : x = h
          · subst hx
            go_wp2_with (first | (at_builtin; refine app_dem _ rfl _ _ rfl w.heap.size _ (on (L.take k) x ++ part nm ⟨r, l, c, g⟩ x y x 0) ⟨r, l, c, g⟩ wr.heap.size rfl (HO2.out.alloc _) rfl (by simp) (by simp) (by simp) (by simp) (by omega) (by have := hh2.le; simp; omega) ?_; intro v' w3 hown1 hg1 _))
            go_roundw
            case rel => exact ⟨1, by omega, by go_num, by simpa [part] using hown1, held_app hh2 HO2.out hg1⟩
            case measure => simp [intOf]
          · go_wp2
            go_roundw
            case rel => exact ⟨1, by omega, by go_num, by simpa [part, hx] using HO2.out, hh2⟩
            case measure => simp [intOf]
        · by_cases hx : y = h
          · subst hx
            go_wp2_with (first | (at_builtin; refine app_dem _ rfl _ _ rfl w.heap.size _ (on (L.take k) y ++ part nm ⟨r, l, c, g⟩ x y y 1) ⟨r, l, c, g⟩ wr.heap.size rfl (HO2.out.alloc _) rfl (by simp) (by simp) (by simp) (by simp) (by omega) (by have := hh2.le; simp; omega) ?_; intro v' w3 hown1 hg1 _))
            go_roundw
            case rel => exact ⟨2, by omega, by go_num, by simpa [part] using hown1, held_app hh2 HO2.out hg1⟩
            case measure => simp [intOf]
          · go_wp2
            go_roundw
            case rel => exact ⟨2, by omega, by go_num, by simpa [part, hx] using HO2.out, hh2⟩
            case measure => simp [intOf]
        · go_wp2
          go_roundw
          case rel => exact ⟨k + 1, by omega, by go_num, by rw [HS.out]; simpa [part, onOne] using HO2.out, hh2⟩
          case measure => simp [intOf]; omega
    · obtain rfl : k = len := by omega
      have HT : Hid (L.take k = L) := show _ = _ by rw [← HL.out, List.take_length]
      go_wp2
      go_ret
      exact ⟨_, rfl, by have := HO.out; rw [HT.out] at this; exact this, hh⟩
end Law39
end Go.Proofs.Ytmpbmckigejagaa
