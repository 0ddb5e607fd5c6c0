/-
  Words for memory: a slice value that reads as a list of cells; what a world keeps.
-/
import Derived.WalkKit
import Derived.Deep.Draws
import Derived.Lib.Hide
namespace Go.Proofs.Ytncgihbnfmpdbaa
open Go.RowKit
set_option linter.unusedVariables false
/-- What all worlds on the way of a call keep: what was there when it began. -/
def Held (w w' : World) : Prop := Below w.heap.size w w'
theorem lt_of_cell {w : World} {p : Addr} {v : Value} (h : w.cell? p = some v) : p.block < w.heap.size := by
  rcases Nat.lt_or_ge p.block w.heap.size with hl | hl
  · exact hl
  · simp [World.cell?, Array.getElem?_eq_none hl] at h
namespace Held
theorem refl (w : World) : Held w w := Below.refl _ _
theorem drew {w a : World} (h : Held w a) : Held w a.drew := Below.drew h
theorem drewN {w a : World} (h : Held w a) : ∀ n, Held w (a.drewN n)
  | 0 => h
  | n + 1 => ⟨h.os, h.tape, h.output, h.size, h.block⟩
theorem alloc {w a : World} (h : Held w a) (o : Obj) : Held w (a.alloc o) := Below.alloc h h.size o
theorem step {w a b : World} (h : Held w a) (hb : Held a b) : Held w b := Below.trans h (Below.mono hb h.size)
theorem set {w a : World} (h : Held w a) {p : Addr} (hp : w.heap.size ≤ p.block) (u : Value) : Held w (a.setCell p u) := Below.setCell h hp u
theorem le {w a : World} (h : Held w a) : w.heap.size ≤ a.heap.size := h.size
theorem cell {w a : World} (h : Held w a) {p : Addr} {v : Value} (hp : w.cell? p = some v) : a.cell? p = some v := by
  rw [Below.cell h ?_, hp]
  rcases Nat.lt_or_ge p.block w.heap.size with hl | hl
  · exact hl
  · simp [World.cell?, Array.getElem?_eq_none hl] at hp
end Held
/-- The slice value '.slice A n _' holds the cells xs, 'size' cells an element. -/
def Rd (w : World) (size : Nat) (A : Option Addr) (n : Nat) (xs : List Value) : Prop :=
  xs.length = n * size ∧ (n = 0 ∨ ∃ b off, A = some ⟨b, off, none⟩ ∧ ∀ j (h : j < xs.length), w.cell? ⟨b, off + j, none⟩ = some xs[j])
namespace Rd
theorem held {w a : World} {size : Nat} {A : Option Addr} {n : Nat} {xs : List Value} (h : Rd w size A n xs) (ha : Held w a) : Rd a size A n xs :=
  ⟨h.1, h.2.imp id fun ⟨b, off, e, hc⟩ => ⟨b, off, e, fun j hj => ha.cell (hc j hj)⟩⟩
theorem zero (w : World) (size : Nat) (A : Option Addr) : Rd w size A 0 [] := ⟨by simp, .inl rfl⟩
end Rd
end Go.Proofs.Ytncgihbnfmpdbaa
