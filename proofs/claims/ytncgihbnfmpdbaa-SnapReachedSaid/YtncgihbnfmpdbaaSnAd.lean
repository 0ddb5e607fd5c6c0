/-
  Plain laws: what awake of the law package meets (chapter 41).
-/
import Derived.Test.YtncgihbnfmpdbaaSnAc
set_option linter.unusedVariables false
set_option linter.unusedSimpArgs false
set_option maxRecDepth 100000
namespace Go.Proofs.Ytncgihbnfmpdbaa.Sn
def nA : ByteArray := ⟨#[97]⟩
def nB : ByteArray := ⟨#[98]⟩
section
variable (b0 b1 b2 b3 p q : ByteArray)
def w0 : Tr := ⟨[b0, b1, b2, b3], []⟩
def w1 : Tr := ⟨[b0, b1, b2, b3], [⟨nA, -1, true, []⟩]⟩
def w2 : Tr := ⟨[b0, b1, b2, b3], [⟨nA, -1, true, [⟨0, p⟩]⟩]⟩
def w3 : Tr := ⟨[b0, b1, b2, b3], [⟨nA, -1, false, [⟨0, p⟩]⟩, ⟨nB, 0, true, []⟩]⟩
def w4 : Tr := ⟨[b0, b1, b2, b3], [⟨nA, -1, false, [⟨0, p⟩]⟩, ⟨nB, 0, true, [⟨1, q⟩]⟩]⟩
def w5 : Tr := ⟨[b0, b1, b2, b3], [dead, ⟨nB, -1, true, [⟨0, p⟩, ⟨1, q⟩]⟩]⟩
theorem a1e : createE (w0 b0 b1 b2 b3) (-1) nA = 0 := rfl
theorem a1 : create (w0 b0 b1 b2 b3) (-1) nA = w1 b0 b1 b2 b3 := rfl
theorem a1n : createN (w0 b0 b1 b2 b3) (-1) nA = 0 := rfl
theorem a2e : writeE (w1 b0 b1 b2 b3) 0 0 = 0 := rfl
theorem a2 (h : ¬ p = b0) : write (w1 b0 b1 b2 b3) 0 0 p = w2 b0 b1 b2 b3 p := by
  have h1 := write_at (T := w1 b0 b1 b2 b3) (p := 0) (b := 0) (s := p) rfl rfl
  rw [show ((0 : Nat) : Int) = 0 from rfl] at h1
  rw [h1]
  have h2 : sees (w1 b0 b1 b2 b3) (-1) 0 = b0 := rfl
  simp only [h2, h, not_false_eq_true, decide_true]
  rfl
theorem a3e : createE (w2 b0 b1 b2 b3 p) 0 nB = 0 := rfl
theorem a3 : create (w2 b0 b1 b2 b3 p) 0 nB = w3 b0 b1 b2 b3 p := rfl
theorem a3n : createN (w2 b0 b1 b2 b3 p) 0 nB = 1 := rfl
theorem a4e : writeE (w3 b0 b1 b2 b3 p) 0 1 = 4103 := rfl
theorem a5e : writeE (w3 b0 b1 b2 b3 p) 1 1 = 0 := rfl
theorem a5 (h : ¬ q = b1) : write (w3 b0 b1 b2 b3 p) 1 1 q = w4 b0 b1 b2 b3 p q := by
  have h1 := write_at (T := w3 b0 b1 b2 b3 p) (p := 1) (b := 1) (s := q) rfl rfl
  rw [show ((1 : Nat) : Int) = 1 from rfl] at h1
  rw [h1]
  have h2 : sees (w3 b0 b1 b2 b3 p) 0 1 = b1 := rfl
  simp only [h2, h, not_false_eq_true, decide_true]
  rfl
theorem a6e : deleteE (w4 b0 b1 b2 b3 p q) 0 = 0 := rfl
theorem a6 (h : ¬ p = b0) (h' : ¬ q = b1) : delete (w4 b0 b1 b2 b3 p q) 0 = w5 b0 b1 b2 b3 p q := by
  have h1 := delete_at (T := w4 b0 b1 b2 b3 p q) (n := 0) (x := ⟨nA, -1, false, [⟨0, p⟩]⟩) rfl rfl
  rw [show ((0 : Nat) : Int) = 0 from rfl] at h1
  rw [h1, delKo_some (j := 1) (y := ⟨nB, 0, true, [⟨1, q⟩]⟩) rfl rfl]
  have hm : merge [⟨1, q⟩] [⟨0, p⟩] = [⟨0, p⟩, ⟨1, q⟩] := by simp [merge]
  have hk : kept (w4 b0 b1 b2 b3 p q) [⟨1, q⟩] [⟨0, p⟩] (-1) = [⟨0, p⟩, ⟨1, q⟩] := by
    unfold kept
    rw [hm]
    have h2 : sees (w4 b0 b1 b2 b3 p q) (-1) 0 = b0 := rfl
    have h3 : sees (w4 b0 b1 b2 b3 p q) (-1) 1 = b1 := rfl
    simp [h2, h3, h, h']
  rw [hk]
  rfl
theorem a7 : readR (w5 b0 b1 b2 b3 p q) 1 0 = (p, true) := rfl
theorem a8 : findR (w5 b0 b1 b2 b3 p q).nodes nB = (1, true) := rfl
theorem a9 : sizeTo (w5 b0 b1 b2 b3 p q).nodes (w5 b0 b1 b2 b3 p q).nodes.length = 2 := rfl
end
theorem ne0 : ¬ Pl.pageV 1 = Pl.dataV 1 128 := by
  intro h
  have h1 : (Pl.pageV 1).data.toList[0]? = (Pl.dataV 1 128).data.toList[0]? := by rw [h]
  have h2 : ((Pl.pByte 1 0 == Pl.dByte 1 0) : Bool) = false := by kernel_rfl
  have h3 : some (Pl.pByte 1 0) = some (Pl.dByte 1 0) := h1
  injection h3 with h3
  rw [h3] at h2
  simp at h2
theorem ne1 : ¬ Pl.pageV 2 = Pl.dataV 2 128 := by
  intro h
  have h1 : (Pl.pageV 2).data.toList[0]? = (Pl.dataV 2 128).data.toList[0]? := by rw [h]
  have h2 : ((Pl.pByte 2 0 == Pl.dByte 2 0) : Bool) = false := by kernel_rfl
  have h3 : some (Pl.pByte 2 0) = some (Pl.dByte 2 0) := h1
  injection h3 with h3
  rw [h3] at h2
  simp at h2
end Go.Proofs.Ytncgihbnfmpdbaa.Sn
