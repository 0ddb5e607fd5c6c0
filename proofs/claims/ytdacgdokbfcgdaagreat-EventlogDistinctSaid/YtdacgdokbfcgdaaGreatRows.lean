/-
  No cell of these rows narrows 'for every input' (looked for: loops, veiled, ifaces, maps, wideKeys, modest, calm, conditions, laid).
  DERIVED. THE GIVEN ROWS OF THIS SEAT. 4 by the template 'for every input the law returns true; each argument reads behind the call as it read before'; 0 by the template 'total and deterministic' (their statements: YtdacgdokbfcgdaaGreatTotals.lean).
  GIVEN WITH THE SEED: the statements are not yours to turn. If you find one false, say at which input.
  Laid BY PROGRAM, IN A SANDBOX (cutbox-rows.mjs): the forced cells as the released guide's own fill.sh prints them over the translation c32c0957ea22687d… (all of the seat's roots in one cut). By AI agents, Wed Nov 11 2026. No macro, syntax, notation, axiom, sorry.
-/
import Derived.Test.YtdacgdokbfcgdaaGreatChecked
import GoSem.Claim
import GoSem.ClaimJoined
import GoSem.ClaimMapViews
import Derived.JoinedTies
import Derived.KernelRfl
namespace Go.Proofs.YtdacgdokbfcgdaaGreat
/- THE CELL 'sum', in the pinned program and in every row, IS THE sha256 OF THE DUMP (.gsa) THAT YtdacgdokbfcgdaaGreatProg.lean LOADS. Nothing in Lean hashes anything: it is a label: what it is worth is what the hold of that sum in a sandbox is worth. -/
noncomputable def Tryz.pinned : Pinned := { name := "ytdacgdokbfcgdaagreat", sum := "c32c0957ea22687d102bb0bca3064ea4616241886c8bb3dc3083b0a8d2ad62e7", checked := Tryz.checked }
namespace Rows
def none {H : Type} : Left H := { results := [], args := [] }

/-- 'vmfleetlaw19.EventlogDistinct': WHATEVER THE INPUT: true; the input reads as it did. -/
def eventlogDistinctSpec : ChangeSpec := { name := "eventlogDistinct", fn := fun _ => fun
  | [d1, d2, d3, d4, d5, d6] => { results := [.lit (.bool true)], args := [d1, d2, d3, d4, d5, d6] }
  | _ => none }
def eventlogDistinctRow : OpenClaim := { program := "ytdacgdokbfcgdaagreat", sum := "c32c0957ea22687d102bb0bca3064ea4616241886c8bb3dc3083b0a8d2ad62e7", func := "vmfleet/vmfleetlaw19.EventlogDistinct", spec := "eventlogDistinct", inPlace := ["internal/abi.NoEscape"], recurses := true, apart := false }
def EventlogDistinctSaid : Prop := eventlogDistinctRow.holds Tryz.pinned (OpenSpec.ofChange eventlogDistinctSpec)

/-- ITS FALSE NEIGHBOUR: 'it returns false'. Refute it at one input. -/
def eventlogDistinctWrong : ChangeSpec := { name := "eventlogDistinct", fn := fun _ => fun
  | [d1, d2, d3, d4, d5, d6] => { results := [.lit (.bool false)], args := [d1, d2, d3, d4, d5, d6] }
  | _ => none }
def EventlogDistinctWrongFalsely : Prop := eventlogDistinctRow.holds Tryz.pinned (OpenSpec.ofChange eventlogDistinctWrong)

/-- 'vmfleetlaw19.EventlogEncodes': WHATEVER THE INPUT: true; the input reads as it did. -/
def eventlogEncodesSpec : ChangeSpec := { name := "eventlogEncodes", fn := fun _ => fun
  | [d1, d2, d3, d4, d5, d6, d7, d8] => { results := [.lit (.bool true)], args := [d1, d2, d3, d4, d5, d6, d7, d8] }
  | _ => none }
def eventlogEncodesRow : OpenClaim := { program := "ytdacgdokbfcgdaagreat", sum := "c32c0957ea22687d102bb0bca3064ea4616241886c8bb3dc3083b0a8d2ad62e7", func := "vmfleet/vmfleetlaw19.EventlogEncodes", spec := "eventlogEncodes", inPlace := ["internal/abi.NoEscape"], unfollowed := true, recurses := true, apart := false }
def EventlogEncodesSaid : Prop := eventlogEncodesRow.holds Tryz.pinned (OpenSpec.ofChange eventlogEncodesSpec)

/-- ITS FALSE NEIGHBOUR: 'it returns false'. Refute it at one input. -/
def eventlogEncodesWrong : ChangeSpec := { name := "eventlogEncodes", fn := fun _ => fun
  | [d1, d2, d3, d4, d5, d6, d7, d8] => { results := [.lit (.bool false)], args := [d1, d2, d3, d4, d5, d6, d7, d8] }
  | _ => none }
def EventlogEncodesWrongFalsely : Prop := eventlogEncodesRow.holds Tryz.pinned (OpenSpec.ofChange eventlogEncodesWrong)

/-- 'vmfleetlaw19.EventlogDecodes': WHATEVER THE INPUT: true; the input reads as it did. -/
def eventlogDecodesSpec : ChangeSpec := { name := "eventlogDecodes", fn := fun _ => fun
  | [d1, d2, d3, d4, d5, d6, d7, d8] => { results := [.lit (.bool true)], args := [d1, d2, d3, d4, d5, d6, d7, d8] }
  | _ => none }
def eventlogDecodesRow : OpenClaim := { program := "ytdacgdokbfcgdaagreat", sum := "c32c0957ea22687d102bb0bca3064ea4616241886c8bb3dc3083b0a8d2ad62e7", func := "vmfleet/vmfleetlaw19.EventlogDecodes", spec := "eventlogDecodes", inPlace := ["internal/abi.NoEscape"], unfollowed := true, recurses := true, apart := false }
def EventlogDecodesSaid : Prop := eventlogDecodesRow.holds Tryz.pinned (OpenSpec.ofChange eventlogDecodesSpec)

/-- ITS FALSE NEIGHBOUR: 'it returns false'. Refute it at one input. -/
def eventlogDecodesWrong : ChangeSpec := { name := "eventlogDecodes", fn := fun _ => fun
  | [d1, d2, d3, d4, d5, d6, d7, d8] => { results := [.lit (.bool false)], args := [d1, d2, d3, d4, d5, d6, d7, d8] }
  | _ => none }
def EventlogDecodesWrongFalsely : Prop := eventlogDecodesRow.holds Tryz.pinned (OpenSpec.ofChange eventlogDecodesWrong)

/-- 'vmfleetlaw19.EventlogParts': WHATEVER THE INPUT: true; the input reads as it did. -/
def eventlogPartsSpec : ChangeSpec := { name := "eventlogParts", fn := fun _ => fun
  | [d1, d2, d3, d4] => { results := [.lit (.bool true)], args := [d1, d2, d3, d4] }
  | _ => none }
def eventlogPartsRow : OpenClaim := { program := "ytdacgdokbfcgdaagreat", sum := "c32c0957ea22687d102bb0bca3064ea4616241886c8bb3dc3083b0a8d2ad62e7", func := "vmfleet/vmfleetlaw19.EventlogParts", spec := "eventlogParts", inPlace := ["internal/abi.NoEscape"], unfollowed := true, recurses := true, apart := false }
def EventlogPartsSaid : Prop := eventlogPartsRow.holds Tryz.pinned (OpenSpec.ofChange eventlogPartsSpec)

/-- ITS FALSE NEIGHBOUR: 'it returns false'. Refute it at one input. -/
def eventlogPartsWrong : ChangeSpec := { name := "eventlogParts", fn := fun _ => fun
  | [d1, d2, d3, d4] => { results := [.lit (.bool false)], args := [d1, d2, d3, d4] }
  | _ => none }
def EventlogPartsWrongFalsely : Prop := eventlogPartsRow.holds Tryz.pinned (OpenSpec.ofChange eventlogPartsWrong)

/- THE SECOND FORM. 'bulk': how many values and letters a reading holds, each counted each time it is reached (what is shared counts as often as it is met; a slice's spare places count too). A statement '..UptoSaid' is the law's where the arguments, and the package variables that the reading takes, are together of bulk at most 1048576: NARROWER than '..Said'. Prove '..Said' where nothing that the law and all that it calls make is longer than what came in: it says more and counts as full. Else prove '..UptoSaid'. A law counts once. -/
mutual
def uptoBulk {H : Type} : DataW H → Nat
  | .lit (.string bytes) => bytes.length + 1
  | .lit _ => 1
  | .nil => 1
  | .ptr d => uptoBulk d + 1
  | .slice elems spare => uptoBulkAll elems + uptoBulkAll spare + 1
  | .agg parts => uptoBulkAll parts + 1
  | .iface _ d => uptoBulk d + 1
  | .map entries => uptoBulkEntries entries + 1
  | .held _ => 1
def uptoBulkAll {H : Type} : List (DataW H) → Nat
  | [] => 0
  | d :: r => uptoBulk d + uptoBulkAll r
def uptoBulkEntries {H : Type} : List (Lit × DataW H) → Nat
  | [] => 0
  | x :: r => uptoBulkEntry x + uptoBulkEntries r
def uptoBulkEntry {H : Type} : Lit × DataW H → Nat
  | (.string bytes, d) => bytes.length + uptoBulk d + 1
  | (_, d) => uptoBulk d + 1
 end
def uptoSmall : (H : Type) → List (DataW H) → Bool := fun _ ds => decide (uptoBulkAll ds ≤ 1048576)
def OpenSpec.upto (s : _root_.Go.ChangeSpec) : _root_.Go.OpenSpec := { _root_.Go.OpenSpec.ofChange s with cond := some uptoSmall }

/-- 'vmfleetlaw19.EventlogDistinct', WHERE WHAT IT READS IS OF BULK AT MOST 1048576: true; the input reads as it did. -/
def eventlogDistinctUptoRow : OpenClaim := { program := "ytdacgdokbfcgdaagreat", sum := "c32c0957ea22687d102bb0bca3064ea4616241886c8bb3dc3083b0a8d2ad62e7", func := "vmfleet/vmfleetlaw19.EventlogDistinct", spec := "eventlogDistinct", inPlace := ["internal/abi.NoEscape"], recurses := true, apart := false, narrowed := true }
def EventlogDistinctUptoSaid : Prop := eventlogDistinctUptoRow.holds Tryz.pinned (OpenSpec.upto eventlogDistinctSpec)

/-- 'vmfleetlaw19.EventlogEncodes', WHERE WHAT IT READS IS OF BULK AT MOST 1048576: true; the input reads as it did. -/
def eventlogEncodesUptoRow : OpenClaim := { program := "ytdacgdokbfcgdaagreat", sum := "c32c0957ea22687d102bb0bca3064ea4616241886c8bb3dc3083b0a8d2ad62e7", func := "vmfleet/vmfleetlaw19.EventlogEncodes", spec := "eventlogEncodes", inPlace := ["internal/abi.NoEscape"], unfollowed := true, recurses := true, apart := false, narrowed := true }
def EventlogEncodesUptoSaid : Prop := eventlogEncodesUptoRow.holds Tryz.pinned (OpenSpec.upto eventlogEncodesSpec)

/-- 'vmfleetlaw19.EventlogDecodes', WHERE WHAT IT READS IS OF BULK AT MOST 1048576: true; the input reads as it did. -/
def eventlogDecodesUptoRow : OpenClaim := { program := "ytdacgdokbfcgdaagreat", sum := "c32c0957ea22687d102bb0bca3064ea4616241886c8bb3dc3083b0a8d2ad62e7", func := "vmfleet/vmfleetlaw19.EventlogDecodes", spec := "eventlogDecodes", inPlace := ["internal/abi.NoEscape"], unfollowed := true, recurses := true, apart := false, narrowed := true }
def EventlogDecodesUptoSaid : Prop := eventlogDecodesUptoRow.holds Tryz.pinned (OpenSpec.upto eventlogDecodesSpec)

/-- 'vmfleetlaw19.EventlogParts', WHERE WHAT IT READS IS OF BULK AT MOST 1048576: true; the input reads as it did. -/
def eventlogPartsUptoRow : OpenClaim := { program := "ytdacgdokbfcgdaagreat", sum := "c32c0957ea22687d102bb0bca3064ea4616241886c8bb3dc3083b0a8d2ad62e7", func := "vmfleet/vmfleetlaw19.EventlogParts", spec := "eventlogParts", inPlace := ["internal/abi.NoEscape"], unfollowed := true, recurses := true, apart := false, narrowed := true }
def EventlogPartsUptoSaid : Prop := eventlogPartsUptoRow.holds Tryz.pinned (OpenSpec.upto eventlogPartsSpec)

end Rows
end Go.Proofs.YtdacgdokbfcgdaaGreat
