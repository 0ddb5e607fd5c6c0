/-
  No cell of these rows narrows 'for every input' (looked for: loops, veiled, ifaces, maps, wideKeys, modest, calm, conditions, laid).
  DERIVED. THE GIVEN ROWS OF THIS SEAT. 3 by the template 'for every input the law returns true; each argument reads behind the call as it read before'; 0 by the template 'total and deterministic' (their statements: YtncgihbnfmpdbaaTotals.lean).
  GIVEN WITH THE SEED: the statements are not yours to turn. If you find one false, say at which input.
  Laid BY PROGRAM, IN A SANDBOX (cutbox-rows.mjs): the forced cells as the released guide's own fill.sh prints them over the translation 180da09991fd9a81… (all of the seat's roots in one cut). By AI agents, Wed Nov 11 2026. No macro, syntax, notation, axiom, sorry.
-/
import Derived.Test.YtncgihbnfmpdbaaChecked
import GoSem.Claim
import GoSem.ClaimJoined
import GoSem.ClaimMapViews
import Derived.JoinedTies
import Derived.KernelRfl
namespace Go.Proofs.Ytncgihbnfmpdbaa
/- THE CELL 'sum', in the pinned program and in every row, IS THE sha256 OF THE DUMP (.gsa) THAT YtncgihbnfmpdbaaProg.lean LOADS. Nothing in Lean hashes anything: it is a label: what it is worth is what the hold of that sum in a sandbox is worth. -/
noncomputable def Try.pinned : Pinned := { name := "ytncgihbnfmpdbaa", sum := "180da09991fd9a81114e3e86fd6788428fd98d3d9f5fee9c52ad40f68ab471e2", checked := Try.checked }
namespace Rows
def none {H : Type} : Left H := { results := [], args := [] }

/-- 'vmfleetlaw41.SnapLean': WHATEVER THE INPUT: true; the input reads as it did. -/
def snapLeanSpec : ChangeSpec := { name := "snapLean", fn := fun _ => fun
  | [d] => { results := [.lit (.bool true)], args := [d] }
  | _ => none }
def snapLeanRow : OpenClaim := { program := "ytncgihbnfmpdbaa", sum := "180da09991fd9a81114e3e86fd6788428fd98d3d9f5fee9c52ad40f68ab471e2", func := "vmfleet/vmfleetlaw41.SnapLean", spec := "snapLean", inPlace := ["slices.overlaps[vmfleet/api.Delta]"], apart := false }
def SnapLeanSaid : Prop := snapLeanRow.holds Try.pinned (OpenSpec.ofChange snapLeanSpec)

/-- ITS FALSE NEIGHBOUR: 'it returns false'. Refute it at one input. -/
def snapLeanWrong : ChangeSpec := { name := "snapLean", fn := fun _ => fun
  | [d] => { results := [.lit (.bool false)], args := [d] }
  | _ => none }
def SnapLeanWrongFalsely : Prop := snapLeanRow.holds Try.pinned (OpenSpec.ofChange snapLeanWrong)

/-- 'vmfleetlaw41.SnapReached': WHATEVER THE INPUT: true; the input reads as it did. -/
def snapReachedSpec : ChangeSpec := { name := "snapReached", fn := fun _ => fun
  | [d1, d2, d3, d4] => { results := [.lit (.bool true)], args := [d1, d2, d3, d4] }
  | _ => none }
def snapReachedRow : OpenClaim := { program := "ytncgihbnfmpdbaa", sum := "180da09991fd9a81114e3e86fd6788428fd98d3d9f5fee9c52ad40f68ab471e2", func := "vmfleet/vmfleetlaw41.SnapReached", spec := "snapReached", inPlace := ["slices.overlaps[vmfleet/api.Delta]"], apart := false }
def SnapReachedSaid : Prop := snapReachedRow.holds Try.pinned (OpenSpec.ofChange snapReachedSpec)

/-- ITS FALSE NEIGHBOUR: 'it returns false'. Refute it at one input. -/
def snapReachedWrong : ChangeSpec := { name := "snapReached", fn := fun _ => fun
  | [d1, d2, d3, d4] => { results := [.lit (.bool false)], args := [d1, d2, d3, d4] }
  | _ => none }
def SnapReachedWrongFalsely : Prop := snapReachedRow.holds Try.pinned (OpenSpec.ofChange snapReachedWrong)

/-- 'vmfleetlaw41.SnapKeeps': WHATEVER THE INPUT: true; the input reads as it did. -/
def snapKeepsSpec : ChangeSpec := { name := "snapKeeps", fn := fun _ => fun
  | [d] => { results := [.lit (.bool true)], args := [d] }
  | _ => none }
def snapKeepsRow : OpenClaim := { program := "ytncgihbnfmpdbaa", sum := "180da09991fd9a81114e3e86fd6788428fd98d3d9f5fee9c52ad40f68ab471e2", func := "vmfleet/vmfleetlaw41.SnapKeeps", spec := "snapKeeps", inPlace := ["slices.overlaps[vmfleet/api.Delta]"], apart := false }
def SnapKeepsSaid : Prop := snapKeepsRow.holds Try.pinned (OpenSpec.ofChange snapKeepsSpec)

/-- ITS FALSE NEIGHBOUR: 'it returns false'. Refute it at one input. -/
def snapKeepsWrong : ChangeSpec := { name := "snapKeeps", fn := fun _ => fun
  | [d] => { results := [.lit (.bool false)], args := [d] }
  | _ => none }
def SnapKeepsWrongFalsely : Prop := snapKeepsRow.holds Try.pinned (OpenSpec.ofChange snapKeepsWrong)

/- THE SECOND FORM. 'bulk': how many values and letters a reading holds, each counted each time it is reached (what is shared counts as often as it is met; a slice's spare places count too). A statement '..UptoSaid' is the law's where the arguments, and the package variables that the reading takes, are together of bulk at most 1048576: NARROWER than '..Said'. Prove '..Said' where nothing that the law and all that it calls make is longer than what came in: it says more and counts as full. Else prove '..UptoSaid'. A law counts once. -/
mutual
def uptoBulk {H : Type} : DataW H → Nat
  | .lit (.string bytes) => bytes.length + 1
  | .lit _ => 1
  | .nil => 1
  | .ptr d => uptoBulk d + 1
  | .slice elems spare => uptoBulkAll elems + uptoBulkAll spare + 1
  | .agg parts => uptoBulkAll parts + 1
  | .iface _ d => uptoBulk d + 1
  | .map entries => uptoBulkEntries entries + 1
  | .held _ => 1
def uptoBulkAll {H : Type} : List (DataW H) → Nat
  | [] => 0
  | d :: r => uptoBulk d + uptoBulkAll r
def uptoBulkEntries {H : Type} : List (Lit × DataW H) → Nat
  | [] => 0
  | x :: r => uptoBulkEntry x + uptoBulkEntries r
def uptoBulkEntry {H : Type} : Lit × DataW H → Nat
  | (.string bytes, d) => bytes.length + uptoBulk d + 1
  | (_, d) => uptoBulk d + 1
 end
def uptoSmall : (H : Type) → List (DataW H) → Bool := fun _ ds => decide (uptoBulkAll ds ≤ 1048576)
def OpenSpec.upto (s : _root_.Go.ChangeSpec) : _root_.Go.OpenSpec := { _root_.Go.OpenSpec.ofChange s with cond := some uptoSmall }

/-- 'vmfleetlaw41.SnapLean', WHERE WHAT IT READS IS OF BULK AT MOST 1048576: true; the input reads as it did. -/
def snapLeanUptoRow : OpenClaim := { program := "ytncgihbnfmpdbaa", sum := "180da09991fd9a81114e3e86fd6788428fd98d3d9f5fee9c52ad40f68ab471e2", func := "vmfleet/vmfleetlaw41.SnapLean", spec := "snapLean", inPlace := ["slices.overlaps[vmfleet/api.Delta]"], apart := false, narrowed := true }
def SnapLeanUptoSaid : Prop := snapLeanUptoRow.holds Try.pinned (OpenSpec.upto snapLeanSpec)

/-- 'vmfleetlaw41.SnapReached', WHERE WHAT IT READS IS OF BULK AT MOST 1048576: true; the input reads as it did. -/
def snapReachedUptoRow : OpenClaim := { program := "ytncgihbnfmpdbaa", sum := "180da09991fd9a81114e3e86fd6788428fd98d3d9f5fee9c52ad40f68ab471e2", func := "vmfleet/vmfleetlaw41.SnapReached", spec := "snapReached", inPlace := ["slices.overlaps[vmfleet/api.Delta]"], apart := false, narrowed := true }
def SnapReachedUptoSaid : Prop := snapReachedUptoRow.holds Try.pinned (OpenSpec.upto snapReachedSpec)

/-- 'vmfleetlaw41.SnapKeeps', WHERE WHAT IT READS IS OF BULK AT MOST 1048576: true; the input reads as it did. -/
def snapKeepsUptoRow : OpenClaim := { program := "ytncgihbnfmpdbaa", sum := "180da09991fd9a81114e3e86fd6788428fd98d3d9f5fee9c52ad40f68ab471e2", func := "vmfleet/vmfleetlaw41.SnapKeeps", spec := "snapKeeps", inPlace := ["slices.overlaps[vmfleet/api.Delta]"], apart := false, narrowed := true }
def SnapKeepsUptoSaid : Prop := snapKeepsUptoRow.holds Try.pinned (OpenSpec.upto snapKeepsSpec)

end Rows
end Go.Proofs.Ytncgihbnfmpdbaa
