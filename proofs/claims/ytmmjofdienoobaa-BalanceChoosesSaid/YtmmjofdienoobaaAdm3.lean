/-
  Contracts: Fits of admission and of its reference.
-/
import Derived.Test.YtmmjofdienoobaaAdm2
namespace Go.Proofs.Ytmmjofdienoobaa
open Go.RowKit
set_option linter.unusedVariables false
set_option maxRecDepth 100000
namespace Adm
open Ad
theorem fits_at {m c : Int} {up : Bool} {L : List Dem} {k : Nat} {d : Dem} (h : L[k]? = some d) : fitsTo m c up L (k + 1) = (fitsTo m c up L k && decide (admit m c up (L.take k) d = 0)) := by
  rw [fitsTo, h]
theorem fits_any (m c : Int) (up : Bool) (A : Option Addr) (len cap : Nat) (L : List Dem) (w : World) (hd : Ds w A len L) (hlen : (len : Int) ≤ 100) (hcap : len ≤ cap) :
    Calls Try.prog 29 #[.agg #[.int .i64 m, .int .i64 c, .bool up], .slice A len cap] w fun e w' => e = .returned (.bool (fits m c up L)) ∧ Held w w' := by
  have HL := Lib.hid hd.1
  have HD := Lib.hid hd
  clear hd
  have W0 := Lib.hid ((Held.refl w).alloc (.cells #[.int .i64 m, .int .i64 c, .bool up] 47))
  have HF : Hid (fits m c up L = fitsTo m c up L len) := show _ = _ by unfold fits; rw [HL.out]
  go_enter Try.func29, Try.ntmps29
  go_wp2
  go_loopw [9] (fun i wr => ∃ k : Nat, k ≤ len ∧ i = .int .i64 k ∧ fitsTo m c up L k = true ∧ Held (w.alloc (.cells #[.int .i64 m, .int .i64 c, .bool up] 47)) wr) (fun i _ => len - (intOf i).toNat)
  case atStart => exact ⟨0, Nat.zero_le _, rfl, rfl, Held.refl _⟩
  case round =>
    obtain ⟨k, hk, rfl, hft, hh⟩ := hrel
    have HT := Lib.hid hft
    clear hft
    by_cases hlt : k < len
    · obtain ⟨b, off, r, l, cc, g, rfl, hk?, q0, q1, q2, q3⟩ := HD.out.at_ (W0.out.step hh) hlt
      have HS : Hid (fitsTo m c up L (k + 1) = (fitsTo m c up L k && decide (admit m c up (L.take k) ⟨r, l, cc, g⟩ = 0))) := fits_at hk?
      have b0 : wr.cell? ⟨w.heap.size, 0, none⟩ = some (.int .i64 m) := hh.cell (by simp)
      have b1 : wr.cell? ⟨w.heap.size, 1, none⟩ = some (.int .i64 c) := hh.cell (by simp)
      have b2 : wr.cell? ⟨w.heap.size, 2, none⟩ = some (.bool up) := hh.cell (by simp)
      have hsz : w.heap.size < wr.heap.size := lt_of_cell b0
      have hDs := HD.out.take hk
      have HDS := Lib.hid hDs
      clear hk? hDs
      have s0 : (wr.alloc (.cells #[.int .i64 r, .int .i64 l, .int .i64 cc, .int .i64 g] 43)).cell? ⟨w.heap.size, 0, none⟩ = some (.int .i64 m) := ((Held.refl wr).alloc _).cell b0
      have s1 : (wr.alloc (.cells #[.int .i64 r, .int .i64 l, .int .i64 cc, .int .i64 g] 43)).cell? ⟨w.heap.size, 1, none⟩ = some (.int .i64 c) := ((Held.refl wr).alloc _).cell b1
      have s2 : (wr.alloc (.cells #[.int .i64 r, .int .i64 l, .int .i64 cc, .int .i64 g] 43)).cell? ⟨w.heap.size, 2, none⟩ = some (.bool up) := ((Held.refl wr).alloc _).cell b2
      have s3 : (wr.alloc (.cells #[.int .i64 r, .int .i64 l, .int .i64 cc, .int .i64 g] 43)).cell? ⟨wr.heap.size, 0, none⟩ = some (.int .i64 r) := by simp
      have s4 : (wr.alloc (.cells #[.int .i64 r, .int .i64 l, .int .i64 cc, .int .i64 g] 43)).cell? ⟨wr.heap.size, 1, none⟩ = some (.int .i64 l) := by simp
      have s5 : (wr.alloc (.cells #[.int .i64 r, .int .i64 l, .int .i64 cc, .int .i64 g] 43)).cell? ⟨wr.heap.size, 2, none⟩ = some (.int .i64 cc) := by simp
      have s6 : (wr.alloc (.cells #[.int .i64 r, .int .i64 l, .int .i64 cc, .int .i64 g] 43)).cell? ⟨wr.heap.size, 3, none⟩ = some (.int .i64 g) := by simp
      have hkc : (k : Int) ≤ cap := by omega
      obtain ⟨ad, had⟩ : ∃ x, admit m c up (L.take k) ⟨r, l, cc, g⟩ = x := ⟨_, rfl⟩
      have HAD := Lib.hid had
      rw [had] at HS
      clear had
      by_cases ha : ad = 0
      · have ha' : (ad != 0) = false := by simp [ha]
        have H2 : Hid (fitsTo m c up L (k + 1) = true) := show _ = _ by rw [HS.out, HT.out]; simp [ha]
        clear ha
        go_wp2
        go_region_held3 (fun w' => w'.cell? ⟨w.heap.size, 0, none⟩ = some (.int .i64 m) ∧ w'.cell? ⟨w.heap.size, 1, none⟩ = some (.int .i64 c) ∧ w'.cell? ⟨w.heap.size, 2, none⟩ = some (.bool up) ∧
            w'.cell? ⟨wr.heap.size, 0, none⟩ = some (.int .i64 r) ∧ w'.cell? ⟨wr.heap.size, 1, none⟩ = some (.int .i64 l) ∧ w'.cell? ⟨wr.heap.size, 2, none⟩ = some (.int .i64 cc) ∧ w'.cell? ⟨wr.heap.size, 3, none⟩ = some (.int .i64 g) ∧ Held (wr.alloc (.cells #[.int .i64 r, .int .i64 l, .int .i64 cc, .int .i64 g] 43)) w')
          ((repeat' refine And.intro ?_ ?_) <;> first | exact s0 | exact s1 | exact s2 | exact s3 | exact s4 | exact s5 | exact s6 | exact (Held.refl _).drew | exact Held.cell (by assumption) s0 | exact Held.cell (by assumption) s1 | exact Held.cell (by assumption) s2 | exact Held.cell (by assumption) s3 | exact Held.cell (by assumption) s4 | exact Held.cell (by assumption) s5 | exact Held.cell (by assumption) s6 | exact (by assumption))
          (first | (go_at_call 18; refine (admit_any _ _ _ _ _ _ (L.take k) _ _ _ _ _ (HDS.out.held ((W0.out.step hh).step (Held.alloc (Held.refl wr) _).drew)) (by omega)).mono ?_; rintro e w3 ⟨rfl, h3⟩; rw [HAD.out]; have h4 : Held (wr.alloc (.cells #[.int .i64 r, .int .i64 l, .int .i64 cc, .int .i64 g] 43)) w3 := (Held.drew (Held.refl _)).step h3))
        go_wp2
        go_roundw
        case rel => exact ⟨k + 1, by omega, by go_num, H2.out, (hh.alloc _).step ‹Held (wr.alloc _) _›⟩
        case measure => simp [intOf]; omega
      · have ha' : (ad != 0) = true := by simp [ha]
        have H2 : Hid (fitsTo m c up L (k + 1) = false) := show _ = _ by rw [HS.out, HT.out]; simp [ha]
        have H3 : Hid (fits m c up L = false) := show _ = _ by rw [HF.out]; exact fits_no H2.out len (by omega)
        clear ha
        go_wp2
        go_region_held3 (fun w' => w'.cell? ⟨w.heap.size, 0, none⟩ = some (.int .i64 m) ∧ w'.cell? ⟨w.heap.size, 1, none⟩ = some (.int .i64 c) ∧ w'.cell? ⟨w.heap.size, 2, none⟩ = some (.bool up) ∧
            w'.cell? ⟨wr.heap.size, 0, none⟩ = some (.int .i64 r) ∧ w'.cell? ⟨wr.heap.size, 1, none⟩ = some (.int .i64 l) ∧ w'.cell? ⟨wr.heap.size, 2, none⟩ = some (.int .i64 cc) ∧ w'.cell? ⟨wr.heap.size, 3, none⟩ = some (.int .i64 g) ∧ Held (wr.alloc (.cells #[.int .i64 r, .int .i64 l, .int .i64 cc, .int .i64 g] 43)) w')
          ((repeat' refine And.intro ?_ ?_) <;> first | exact s0 | exact s1 | exact s2 | exact s3 | exact s4 | exact s5 | exact s6 | exact (Held.refl _).drew | exact Held.cell (by assumption) s0 | exact Held.cell (by assumption) s1 | exact Held.cell (by assumption) s2 | exact Held.cell (by assumption) s3 | exact Held.cell (by assumption) s4 | exact Held.cell (by assumption) s5 | exact Held.cell (by assumption) s6 | exact (by assumption))
          (first | (go_at_call 18; refine (admit_any _ _ _ _ _ _ (L.take k) _ _ _ _ _ (HDS.out.held ((W0.out.step hh).step (Held.alloc (Held.refl wr) _).drew)) (by omega)).mono ?_; rintro e w3 ⟨rfl, h3⟩; rw [HAD.out]; have h4 : Held (wr.alloc (.cells #[.int .i64 r, .int .i64 l, .int .i64 cc, .int .i64 g] 43)) w3 := (Held.drew (Held.refl _)).step h3))
        go_wp2
        go_ret
        exact ⟨by rw [H3.out]; rfl, (W0.out.step hh).step (((Held.refl _).alloc _).step ‹Held (wr.alloc _) _›)⟩
    · obtain rfl : k = len := by omega
      go_wp2
      go_ret
      exact ⟨by rw [HF.out, HT.out]; rfl, W0.out.step hh⟩
end Adm
end Go.Proofs.Ytmmjofdienoobaa
