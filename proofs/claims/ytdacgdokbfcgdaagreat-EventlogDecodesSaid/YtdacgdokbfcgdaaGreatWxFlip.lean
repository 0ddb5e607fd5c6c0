/-
  One byte of a string's bytes turned: what the walk is told.
-/
import Derived.Test.YtdacgdokbfcgdaaGreatW13
import Derived.Test.YtdacgdokbfcgdaaGreatW1
set_option linter.unusedVariables false
set_option maxRecDepth 100000
namespace Go.Proofs.YtdacgdokbfcgdaaGreat
open Go.RowKit
namespace Flip
/-- '[]byte(s)', one byte stored, the string of it. -/
theorem facts (s : ByteArray) (w : World) (j : Nat) (hj : j < s.size) (c : UInt8) : ∃ (C : Array Value) (cap : Nat),
    (convert 9 37 (.string s)).run Tryz.prog w = .ok (.slice (some ⟨w.heap.size, 0, none⟩) s.size cap) (w.drew.alloc (.cells C 5 (C.size, C.size + 1))) ∧
    (w.alloc (.cells C 5 (C.size, C.size + 1))).frozen? ⟨w.heap.size, j, none⟩ = false ∧
    (w.alloc (.cells C 5 (C.size, C.size + 1))).cell? ⟨w.heap.size, j, none⟩ = some (.int .u8 s[j].toNat) ∧
    (∀ nq, (convert 37 9 (.slice (some ⟨w.heap.size, 0, none⟩) s.size cap)).run Tryz.prog (((w.alloc (.cells C 5 (C.size, C.size + 1))).setCell ⟨w.heap.size, j, none⟩ (.int .u8 c.toNat)).drewN nq) =
      .ok (.string ⟨(s.data.toList.set j c).toArray⟩) (((w.alloc (.cells C 5 (C.size, C.size + 1))).setCell ⟨w.heap.size, j, none⟩ (.int .u8 c.toNat)).drewN nq)) := by
  obtain ⟨C, cap, hC, hCat, hconv⟩ := Strs.bytes_of s w
  have hf : (w.alloc (.cells C 5 (C.size, C.size + 1))).frozen? ⟨w.heap.size, j, none⟩ = false := by
    rw [World.frozen?_alloc_mark]; simp; omega
  have hcell : (w.alloc (.cells C 5 (C.size, C.size + 1))).cell? ⟨w.heap.size, j, none⟩ = some (.int .u8 s[j].toNat) := by
    rw [World.cell?_alloc_mark, hCat j hj]
  refine ⟨C, cap, hconv, hf, hcell, fun nq => ?_⟩
  have hset : ∀ i (hi : i < (s.data.toList.set j c).length), ((w.alloc (.cells C 5 (C.size, C.size + 1))).setCell ⟨w.heap.size, j, none⟩ (.int .u8 c.toNat)).cell? ((⟨w.heap.size, 0, none⟩ : Addr).add i) = some (.int .u8 (s.data.toList.set j c)[i].toNat) := by
    intro i hi
    rw [Strs.addr_add]
    by_cases hij : i = j
    · subst hij
      rw [World.cell?_setCell_same (h := hcell)]; simp
    · rw [World.cell?_setCell_other (h := fun e => hij (congrArg Addr.off e).symm), World.cell?_alloc_mark, hCat i (by simpa using hi)]
      rw [List.getElem_set_ne (by omega)]; rfl
  have hlen : (s.data.toList.set j c).length = s.size := by simp
  have := Strs.bytes_back (((w.alloc (.cells C 5 (C.size, C.size + 1))).setCell ⟨w.heap.size, j, none⟩ (.int .u8 c.toNat)).drewN nq) ⟨w.heap.size, 0, none⟩ cap _ hset
  rw [hlen] at this; exact this
/-- A bit turned. -/
def turn (c : UInt8) (r : Nat) : UInt8 := UInt8.ofNat (c.toNat ^^^ 2 ^ r)
end Flip
end Go.Proofs.YtdacgdokbfcgdaaGreat
