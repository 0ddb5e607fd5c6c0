/-
  The shelf's contracts of strings.Builder at this program's numbers (printed by wip/tools/mkbld.py).
-/
import Derived.Shelf.Strings.Builder1
import Derived.Shelf.Strings.BuilderK
import Derived.Test.YtdacgdokbfcgdaaRd
import Derived.Test.YtdacgdokbfcgdaaProg
namespace Go.Proofs.Ytdacgdokbfcgdaa
open Go.Shelf Go.RowKit
namespace Bld
def ren : Go.Shelf.Ren := ⟨fun | 240 => 36 | 276 => 37 | 166 => 29 | 170 => 31 | 169 => 32 | n => n, fun | 0 => 0 | 3 => 3 | 4 => 4 | 5 => 5 | 9 => 9 | 20 => 20 | 37 => 34 | 70 => 59 | 72 => 61 | 75 => 63 | 80 => 51 | 127 => 71 | 164 => 72 | n => n, fun | n => n⟩
theorem lays240 : Go.Proofs.Lays.n240 Try.prog ren := {
  mixed := by kernel_rfl
  f240 := Try.func36.trans (congrArg some (by kernel_rfl))
  f276 := Try.func37.trans (congrArg some (by kernel_rfl))
  t0 := Try.underlying0
  a0 := Try.isAgg0
  z0 := Try.sizeOf0
  v0 := Try.zeroValue0
  t4 := Try.underlying4
  a4 := Try.isAgg4
  z4 := Try.sizeOf4
  v4 := Try.zeroValue4
  t9 := Try.underlying9
  a9 := Try.isAgg9
  z9 := Try.sizeOf9
  v9 := Try.zeroValue9
  t20 := Try.underlying20
  a20 := Try.isAgg20
  z20 := Try.sizeOf20
  v20 := Try.zeroValue20
  t70 := Try.underlying59
  a70 := Try.isAgg59
  z70 := Try.sizeOf59
  v70 := Try.zeroValue59
  t72 := Try.underlying61
  a72 := Try.isAgg61
  z72 := Try.sizeOf61
  v72 := Try.zeroValue61
  t164 := Try.underlying72
  a164 := Try.isAgg72
  z164 := Try.sizeOf72
  v164 := Try.zeroValue72 }
theorem lays166 : Go.Proofs.Lays.n166 Try.prog ren := {
  mixed := by kernel_rfl
  f166 := Try.func29.trans (congrArg some (by kernel_rfl))
  f240 := Try.func36.trans (congrArg some (by kernel_rfl))
  f276 := Try.func37.trans (congrArg some (by kernel_rfl))
  t0 := Try.underlying0
  a0 := Try.isAgg0
  z0 := Try.sizeOf0
  v0 := Try.zeroValue0
  t3 := Try.underlying3
  a3 := Try.isAgg3
  z3 := Try.sizeOf3
  v3 := Try.zeroValue3
  t4 := Try.underlying4
  a4 := Try.isAgg4
  z4 := Try.sizeOf4
  v4 := Try.zeroValue4
  t9 := Try.underlying9
  a9 := Try.isAgg9
  z9 := Try.sizeOf9
  v9 := Try.zeroValue9
  t20 := Try.underlying20
  a20 := Try.isAgg20
  z20 := Try.sizeOf20
  v20 := Try.zeroValue20
  t37 := Try.underlying34
  a37 := Try.isAgg34
  z37 := Try.sizeOf34
  v37 := Try.zeroValue34
  t70 := Try.underlying59
  a70 := Try.isAgg59
  z70 := Try.sizeOf59
  v70 := Try.zeroValue59
  t72 := Try.underlying61
  a72 := Try.isAgg61
  z72 := Try.sizeOf61
  v72 := Try.zeroValue61
  t75 := Try.underlying63
  a75 := Try.isAgg63
  z75 := Try.sizeOf63
  v75 := Try.zeroValue63
  t164 := Try.underlying72
  a164 := Try.isAgg72
  z164 := Try.sizeOf72
  v164 := Try.zeroValue72 }
theorem lays170 : Go.Proofs.Lays.n170 Try.prog ren := {
  mixed := by kernel_rfl
  f170 := Try.func31.trans (congrArg some (by kernel_rfl))
  t0 := Try.underlying0
  a0 := Try.isAgg0
  z0 := Try.sizeOf0
  v0 := Try.zeroValue0
  t3 := Try.underlying3
  a3 := Try.isAgg3
  z3 := Try.sizeOf3
  v3 := Try.zeroValue3
  t37 := Try.underlying34
  a37 := Try.isAgg34
  z37 := Try.sizeOf34
  v37 := Try.zeroValue34
  t70 := Try.underlying59
  a70 := Try.isAgg59
  z70 := Try.sizeOf59
  v70 := Try.zeroValue59
  t72 := Try.underlying61
  a72 := Try.isAgg61
  z72 := Try.sizeOf61
  v72 := Try.zeroValue61 }
theorem lays169 : Go.Proofs.Lays.n169 Try.prog ren := {
  mixed := by kernel_rfl
  f169 := Try.func32.trans (congrArg some (by kernel_rfl))
  t0 := Try.underlying0
  a0 := Try.isAgg0
  z0 := Try.sizeOf0
  v0 := Try.zeroValue0
  t3 := Try.underlying3
  a3 := Try.isAgg3
  z3 := Try.sizeOf3
  v3 := Try.zeroValue3
  t9 := Try.underlying9
  a9 := Try.isAgg9
  z9 := Try.sizeOf9
  v9 := Try.zeroValue9
  t37 := Try.underlying34
  a37 := Try.isAgg34
  z37 := Try.sizeOf34
  v37 := Try.zeroValue34
  t70 := Try.underlying59
  a70 := Try.isAgg59
  z70 := Try.sizeOf59
  v70 := Try.zeroValue59
  t72 := Try.underlying61
  a72 := Try.isAgg61
  z72 := Try.sizeOf61
  v72 := Try.zeroValue61
  t127 := Try.underlying71
  a127 := Try.isAgg71
  z127 := Try.sizeOf71
  v127 := Try.zeroValue71 }
theorem x72 : Builder.X72 Try.prog ren := {
  sizeBuilder := by kernel_rfl
  liesBuilder := by kernel_rfl }
theorem extra : Builder.Extra Try.prog ren := {
  sizeBuilder := by kernel_rfl
  liesBuilder := by kernel_rfl
  t5 := Try.underlying5
  a5 := Try.isAgg5
  z5 := Try.sizeOf5
  v5 := Try.zeroValue5
  infoByte := by kernel_rfl
  cellsByte := by kernel_rfl
  sizeByte := by kernel_rfl
  neB5 := by decide }
/-- A builder at block b that holds these bytes (its base is its own block). -/
def Is (b : Nat) (l : List UInt8) (w : World) : Prop := Lib.IsBuilderF 61 5 b b (Lib.byteCells l) w
/-- What a call on the builder at b keeps: all below it, and each block that is neither it nor a row of bytes. -/
def Kept (b : Nat) (w w' : World) : Prop := Below b w w' ∧ Lib.OthersKept 5 (some b) w w'
theorem Is.new (w : World) : Is w.heap.size [] (w.alloc (.cells #[.pointer none, .slice none 0 0] 61)) := Lib.IsBuilderF.of (Lib.fresh_isBuilder _ _ w)
theorem at_held {b : Nat} {p : Value} {bs : List Value} {w a : World} (h : Lib.BuilderAtF 61 5 b b p bs w) (ha : Held w a) : Lib.BuilderAtF 61 5 b b p bs a := by
  have hlt := h.lt
  obtain ⟨hB, v, hv, hown, hne⟩ := h
  exact ⟨hB, v, (ha.block b hlt).trans hv, hown.kept (row := none) ⟨ha.os, ha.tape, ha.output, ha.size, fun k hk _ => ha.block k hk⟩ (Classical.em _), hne⟩
theorem Is.held {b : Nat} {l : List UInt8} {w a : World} (h : Is b l w) (ha : Held w a) : Is b l a := Or.elim h (fun x => .inl (at_held x ha)) (fun x => .inr (at_held x ha))
theorem Kept.box {b q : Nat} {w a : World} {cs : Array Value} {T : TypeId} {fz : Nat × Nat} (h : Kept b w a) (hq : w.heap[q]? = some (.cells cs T fz)) (hb : q ≠ b) (hT : T ≠ 5) : a.heap[q]? = some (.cells cs T fz) :=
  h.2 q _ hq (by simpa using hb) (by intro c z e; cases e; exact hT rfl)
theorem Kept.heldOf {b : Nat} {W w a : World} (h : Kept b w a) (hW : Held W w) (hb : W.heap.size ≤ b) : Held W a := Below.trans hW (Below.mono h.1 hb)
theorem write_any (b : Nat) (l : List UInt8) (s : ByteArray) (w : World) (h : Is b l w) (hlen : l.length + s.size ≤ 140737488355328) (hB : b ≤ w.heap.size) :
    Calls Try.prog 29 #[.pointer (some ⟨b, 0, none⟩), .string s] w fun e w' => e = .returned (.tuple #[.int .i64 s.size, .nilIface]) ∧ Is b (l ++ s.data.toList) w' ∧ Kept b w w' := by
  refine (Any.Builder_WriteString_k lays166 extra b b (Lib.byteCells l) s w h (by rw [Lib.byteCells_length]; exact hlen) hB).mono ?_
  rintro e w' ⟨rfl, h1, h2, h3⟩
  refine ⟨rfl, ?_, h2, h3⟩
  unfold Is
  rw [Lib.byteCells_append]
  exact Or.inr h1
theorem string_any (b : Nat) (l : List UInt8) (w : World) (h : Is b l w) (hB : b ≤ w.heap.size) :
    Calls Try.prog 32 #[.pointer (some ⟨b, 0, none⟩)] w fun e w' => e = .returned (.string ⟨l.toArray⟩) ∧ Is b l w' ∧ Kept b w w' :=
  (Any.Builder_String_any_k lays169 extra b b l w h hB).mono fun _ _ ⟨h0, h1, h2, h3⟩ => ⟨h0, h1, h2, h3⟩
theorem len_any (b : Nat) (l : List UInt8) (w : World) (h : Is b l w) :
    Calls Try.prog 31 #[.pointer (some ⟨b, 0, none⟩)] w fun e w' => e = .returned (.int .i64 l.length) ∧ w' = w := by
  have := Any.Builder_Len_f lays170 b b (Lib.byteCells l) w h
  rw [Lib.byteCells_length] at this
  exact this
end Bld
end Go.Proofs.Ytdacgdokbfcgdaa
