/-
  Plain laws, no program in sight: the two pages of zeros of the laws of chapter 36.
-/
import Derived.Test.YtgfbfmgdlbdlhaaPgN
set_option linter.unusedVariables false
set_option linter.unusedSimpArgs false
set_option maxRecDepth 100000
namespace Go.Proofs.Ytgfbfmgdlbdlhaa
open Go.RowKit
namespace Pg
def zero : ByteArray := ⟨(List.replicate 128 0).toArray⟩
theorem zero_size : zero.size = 128 := by decide
theorem ba_ext {a b : ByteArray} (h : a.data.toList = b.data.toList) : a = b := by
  cases a; cases b
  simp only [ByteArray.mk.injEq]
  exact Array.ext' h
theorem unz_zip (d : ByteArray) (h : d.size = 128) : unz (zip d) = d ∧ unzE (zip d) = 0 := by
  have hb := Cp.back 128 d.data.toList
  have hl : d.data.toList.length = 128 := by rw [← h]; simp
  rw [hl, if_pos (Nat.le_refl _)] at hb
  refine ⟨ba_ext ?_, ?_⟩
  · unfold unz zip
    simp only
    rw [hb]
  · unfold unzE zip
    simp only
    rw [hb]
theorem zip_zero : (zip zero).size ≤ 64 := by decide +kernel
section
variable {z zz : ByteArray} (h1 : z.size = 128) (h2 : zip z = zz) (h3 : zz.size ≤ 64) (h4 : unz zz = z) (h5 : unzE zz = 0)
include h1 h2 h3
theorem new_zz : newP [z, z] 1 = ([⟨1, z, false⟩, ⟨2, zz, false⟩], 1, true) := by
  simp [newP, newOk, newBad, newL, newAt, putOut, h1, h2, h3]
include h4 h5
theorem valid1 (b : Bool) (hd : Int) (hh : hd = 0 ∨ hd = 1) : valid [⟨1, z, b⟩, ⟨2, zz, false⟩] 1 hd = true := by
  rcases hh with rfl | rfl <;> simp [valid, okP, okZ, count, h1, h2, h3, h4, h5] <;> omega
theorem valid2 (b : Bool) (hd : Int) (hh : hd = 0 ∨ hd = 1) : valid [⟨2, zz, false⟩, ⟨1, z, b⟩] 1 hd = true := by
  rcases hh with rfl | rfl <;> simp [valid, okP, okZ, count, h1, h2, h3, h4, h5] <;> omega
theorem touch_zz : touch [⟨1, z, false⟩, ⟨2, zz, false⟩] 1 0 1 = ([⟨2, zz, false⟩, ⟨1, z, true⟩], 1, 2) := by
  have hv := valid1 h1 h2 h3 h4 h5 false 0 (.inl rfl)
  have e1 : evV [⟨1, z, false⟩, ⟨2, zz, false⟩] 0 = 0 := by simp [evV, vicV, vicOut, vicP, vicF]
  have e2 : evM [⟨1, z, false⟩, ⟨2, zz, false⟩] 0 = [false, false] := by simp [evM, vicU, vicOut, vicP, vicF]
  have e3 : evH [⟨1, z, false⟩, ⟨2, zz, false⟩] 0 = 1 := by simp [evH, e1, vicH, vicOut, vicP, vicF]
  simp [touch, hv, tch1, count, evL, e1, e2, e3, mark, putOut, content, dfl, h1, h2, h3, h4, h5]
theorem touch_zz2 : touch [⟨2, zz, false⟩, ⟨1, z, true⟩] 1 1 0 = ([⟨1, z, true⟩, ⟨2, zz, false⟩], 0, 2) := by
  have hv := valid2 h1 h2 h3 h4 h5 true 1 (.inr rfl)
  have e1 : evV [⟨2, zz, false⟩, ⟨1, z, true⟩] 1 = 1 := by simp [evV, vicV, vicOut, vicP, vicF]
  have e2 : evM [⟨2, zz, false⟩, ⟨1, z, true⟩] 1 = [false, false] := by simp [evM, vicU, vicOut, vicP, vicF]
  have e3 : evH [⟨2, zz, false⟩, ⟨1, z, true⟩] 1 = 0 := by simp [evH, e1, vicH, vicOut, vicP, vicF]
  simp [touch, hv, tch1, count, evL, e1, e2, e3, mark, putOut, content, dfl, h1, h2, h3, h4, h5]
theorem read_zz : readS [⟨2, zz, false⟩, ⟨1, z, true⟩] 1 1 0 = z := by
  unfold readS
  rw [touch_zz2 h1 h2 h3 h4 h5]; rfl
end
end Pg
end Go.Proofs.Ytgfbfmgdlbdlhaa
