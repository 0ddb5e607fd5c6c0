/-
  Contracts: Fits of the reference.
-/
import Derived.Test.YtmmjofdienoobaaAdm3
namespace Go.Proofs.Ytmmjofdienoobaa
open Go.RowKit
set_option linter.unusedVariables false
set_option maxRecDepth 100000
namespace Adm
open Ad
theorem fits_short {m c : Int} {up : Bool} {L : List Dem} {k : Nat} {d : Dem} (hk : k < L.length) (h : admit m c up (L.take k) d = 0) : k ≤ 16 := by
  rcases Nat.lt_or_ge 16 k with h16 | h16
  · have hv : valid m c (L.take k) = false := by
      unfold valid
      rw [show decide ((L.take k).length ≤ 16) = false by rw [List.length_take]; simp; omega]; simp
    unfold admit at h
    rw [hv, Bool.false_and, if_pos rfl] at h
    cases h
  · exact h16
theorem fits_ref_any (m c : Int) (up : Bool) (A : Option Addr) (len cap : Nat) (L : List Dem) (w : World) (hd : Ds w A len L) (hlen : (len : Int) ≤ 100) (hcap : len ≤ cap) :
    Calls Try.prog 62 #[.agg #[.int .i64 m, .int .i64 c, .bool up], .slice A len cap] w fun e w' => e = .returned (.bool (fits m c up L)) ∧ Held w w' := by
  have HL := Lib.hid hd.1
  have HD := Lib.hid hd
  clear hd
  have W0 := Lib.hid ((Held.refl w).alloc (.cells #[.int .i64 m, .int .i64 c, .bool up] 47))
  have HF : Hid (fits m c up L = fitsTo m c up L len) := show _ = _ by unfold fits; rw [HL.out]
  go_enter Try.func62, Try.ntmps62
  go_wp2
  go_loopw [5] (fun i wr => ∃ k : Nat, k ≤ len ∧ k ≤ 17 ∧ i = .int .i64 k ∧ fitsTo m c up L k = true ∧ Held (w.alloc (.cells #[.int .i64 m, .int .i64 c, .bool up] 47)) wr) (fun i _ => len - (intOf i).toNat)
  case atStart => exact ⟨0, Nat.zero_le _, Nat.zero_le _, rfl, rfl, Held.refl _⟩
  case round =>
    obtain ⟨k, hk, hk17, rfl, hft, hh⟩ := hrel
    have HT := Lib.hid hft
    clear hft
    by_cases hlt : k < len
    · obtain ⟨b, off, r, l, cc, g, rfl, hk?, q0, q1, q2, q3⟩ := HD.out.at_ (W0.out.step hh) hlt
      have HS : Hid (fitsTo m c up L (k + 1) = (fitsTo m c up L k && decide (admit m c up (L.take k) ⟨r, l, cc, g⟩ = 0))) := fits_at hk?
      have b0 : wr.cell? ⟨w.heap.size, 0, none⟩ = some (.int .i64 m) := hh.cell (by simp)
      have b1 : wr.cell? ⟨w.heap.size, 1, none⟩ = some (.int .i64 c) := hh.cell (by simp)
      have b2 : wr.cell? ⟨w.heap.size, 2, none⟩ = some (.bool up) := hh.cell (by simp)
      have hDs := HD.out.take hk
      have HDS := Lib.hid hDs
      clear hk? hDs
      have hkc : (k : Int) ≤ cap := by omega
      have hkl : (k : Int) < len := by omega
      obtain ⟨ad, had⟩ : ∃ x, admit m c up (L.take k) ⟨r, l, cc, g⟩ = x := ⟨_, rfl⟩
      have HAD := Lib.hid had
      rw [had] at HS
      clear had
      by_cases ha : ad = 0
      · have ha' : (ad != 0) = false := by simp [ha]
        have H2 : Hid (fitsTo m c up L (k + 1) = true) := show _ = _ by rw [HS.out, HT.out]; simp [ha]
        have hk16 : k ≤ 16 := fits_short (by rw [HL.out]; exact hlt) (by rw [HAD.out, ha])
        clear ha
        go_wp2
        go_region_held3 (fun w' => w'.cell? ⟨w.heap.size, 0, none⟩ = some (.int .i64 m) ∧ w'.cell? ⟨w.heap.size, 1, none⟩ = some (.int .i64 c) ∧ w'.cell? ⟨w.heap.size, 2, none⟩ = some (.bool up) ∧
            w'.cell? ⟨b, off + k * 4, none⟩ = some (.int .i64 r) ∧ w'.cell? ⟨b, off + k * 4 + 1, none⟩ = some (.int .i64 l) ∧ w'.cell? ⟨b, off + k * 4 + 2, none⟩ = some (.int .i64 cc) ∧ w'.cell? ⟨b, off + k * 4 + 3, none⟩ = some (.int .i64 g) ∧ Held wr w')
          ((repeat' refine And.intro ?_ ?_) <;> first | exact b0 | exact b1 | exact b2 | exact q0 | exact q1 | exact q2 | exact q3 | exact (Held.refl _).drew | exact Held.cell (by assumption) b0 | exact Held.cell (by assumption) b1 | exact Held.cell (by assumption) b2 | exact Held.cell (by assumption) q0 | exact Held.cell (by assumption) q1 | exact Held.cell (by assumption) q2 | exact Held.cell (by assumption) q3 | exact (by assumption))
          (first | (go_at_call 61; refine (admit_ref_any _ _ _ _ _ _ (L.take k) _ _ _ _ _ (HDS.out.held ((W0.out.step hh).drew)) (by omega)).mono ?_; rintro e w3 ⟨rfl, h3⟩; rw [HAD.out]; have h4 : Held wr w3 := (Held.drew (Held.refl _)).step h3))
        go_wp2
        go_roundw
        case rel => exact ⟨k + 1, by omega, by omega, by go_num, H2.out, hh.step ‹Held wr _›⟩
        case measure => simp [intOf]; omega
      · have ha' : (ad != 0) = true := by simp [ha]
        have H2 : Hid (fitsTo m c up L (k + 1) = false) := show _ = _ by rw [HS.out, HT.out]; simp [ha]
        have H3 : Hid (fits m c up L = false) := show _ = _ by rw [HF.out]; exact fits_no H2.out len (by omega)
        clear ha
        go_wp2
        go_region_held3 (fun w' => w'.cell? ⟨w.heap.size, 0, none⟩ = some (.int .i64 m) ∧ w'.cell? ⟨w.heap.size, 1, none⟩ = some (.int .i64 c) ∧ w'.cell? ⟨w.heap.size, 2, none⟩ = some (.bool up) ∧
            w'.cell? ⟨b, off + k * 4, none⟩ = some (.int .i64 r) ∧ w'.cell? ⟨b, off + k * 4 + 1, none⟩ = some (.int .i64 l) ∧ w'.cell? ⟨b, off + k * 4 + 2, none⟩ = some (.int .i64 cc) ∧ w'.cell? ⟨b, off + k * 4 + 3, none⟩ = some (.int .i64 g) ∧ Held wr w')
          ((repeat' refine And.intro ?_ ?_) <;> first | exact b0 | exact b1 | exact b2 | exact q0 | exact q1 | exact q2 | exact q3 | exact (Held.refl _).drew | exact Held.cell (by assumption) b0 | exact Held.cell (by assumption) b1 | exact Held.cell (by assumption) b2 | exact Held.cell (by assumption) q0 | exact Held.cell (by assumption) q1 | exact Held.cell (by assumption) q2 | exact Held.cell (by assumption) q3 | exact (by assumption))
          (first | (go_at_call 61; refine (admit_ref_any _ _ _ _ _ _ (L.take k) _ _ _ _ _ (HDS.out.held ((W0.out.step hh).drew)) (by omega)).mono ?_; rintro e w3 ⟨rfl, h3⟩; rw [HAD.out]; have h4 : Held wr w3 := (Held.drew (Held.refl _)).step h3))
        go_wp2
        go_ret
        exact ⟨by rw [H3.out]; rfl, (W0.out.step hh).step ‹Held wr _›⟩
    · obtain rfl : k = len := by omega
      go_wp2
      go_ret
      exact ⟨by rw [HF.out, HT.out]; rfl, W0.out.step hh⟩
end Adm
end Go.Proofs.Ytmmjofdienoobaa
