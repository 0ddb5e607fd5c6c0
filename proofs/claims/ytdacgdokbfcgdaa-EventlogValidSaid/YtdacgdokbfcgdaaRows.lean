/-
  No cell of these rows narrows 'for every input' (looked for: loops, veiled, ifaces, maps, wideKeys, modest, calm, conditions, laid).
  DERIVED. THE GIVEN ROWS OF THIS SEAT. 3 by the template 'for every input the law returns true; each argument reads behind the call as it read before'; 0 by the template 'total and deterministic' (their statements: YtdacgdokbfcgdaaTotals.lean).
  GIVEN WITH THE SEED: the statements are not yours to turn. If you find one false, say at which input.
  Laid BY PROGRAM, IN A SANDBOX (cutbox-rows.mjs): the forced cells as the released guide's own fill.sh prints them over the translation 82cf6ff4245e0a44… (all of the seat's roots in one cut). By AI agents, Wed Nov 11 2026. No macro, syntax, notation, axiom, sorry.
-/
import Derived.Test.YtdacgdokbfcgdaaChecked
import GoSem.Claim
import GoSem.ClaimJoined
import GoSem.ClaimMapViews
import Derived.JoinedTies
import Derived.KernelRfl
namespace Go.Proofs.Ytdacgdokbfcgdaa
/- THE CELL 'sum', in the pinned program and in every row, IS THE sha256 OF THE DUMP (.gsa) THAT YtdacgdokbfcgdaaProg.lean LOADS. Nothing in Lean hashes anything: it is a label: what it is worth is what the hold of that sum in a sandbox is worth. -/
noncomputable def Try.pinned : Pinned := { name := "ytdacgdokbfcgdaa", sum := "82cf6ff4245e0a44fa0cb50de9a56a13c648623b2738eff0954b3d74170af7c4", checked := Try.checked }
namespace Rows
def none {H : Type} : Left H := { results := [], args := [] }

/-- 'vmfleetlaw19.EventlogValid': WHATEVER THE INPUT: true; the input reads as it did. -/
def eventlogValidSpec : ChangeSpec := { name := "eventlogValid", fn := fun _ => fun
  | [d1, d2, d3] => { results := [.lit (.bool true)], args := [d1, d2, d3] }
  | _ => none }
def eventlogValidRow : OpenClaim := { program := "ytdacgdokbfcgdaa", sum := "82cf6ff4245e0a44fa0cb50de9a56a13c648623b2738eff0954b3d74170af7c4", func := "vmfleet/vmfleetlaw19.EventlogValid", spec := "eventlogValid", inPlace := ["internal/abi.NoEscape"], apart := false }
def EventlogValidSaid : Prop := eventlogValidRow.holds Try.pinned (OpenSpec.ofChange eventlogValidSpec)

/-- ITS FALSE NEIGHBOUR: 'it returns false'. Refute it at one input. -/
def eventlogValidWrong : ChangeSpec := { name := "eventlogValid", fn := fun _ => fun
  | [d1, d2, d3] => { results := [.lit (.bool false)], args := [d1, d2, d3] }
  | _ => none }
def EventlogValidWrongFalsely : Prop := eventlogValidRow.holds Try.pinned (OpenSpec.ofChange eventlogValidWrong)

/-- 'vmfleetlaw19.EventlogSeals': WHATEVER THE INPUT: true; the input reads as it did. -/
def eventlogSealsSpec : ChangeSpec := { name := "eventlogSeals", fn := fun _ => fun
  | [d1, d2, d3] => { results := [.lit (.bool true)], args := [d1, d2, d3] }
  | _ => none }
def eventlogSealsRow : OpenClaim := { program := "ytdacgdokbfcgdaa", sum := "82cf6ff4245e0a44fa0cb50de9a56a13c648623b2738eff0954b3d74170af7c4", func := "vmfleet/vmfleetlaw19.EventlogSeals", spec := "eventlogSeals", inPlace := ["internal/abi.NoEscape"], apart := false }
def EventlogSealsSaid : Prop := eventlogSealsRow.holds Try.pinned (OpenSpec.ofChange eventlogSealsSpec)

/-- ITS FALSE NEIGHBOUR: 'it returns false'. Refute it at one input. -/
def eventlogSealsWrong : ChangeSpec := { name := "eventlogSeals", fn := fun _ => fun
  | [d1, d2, d3] => { results := [.lit (.bool false)], args := [d1, d2, d3] }
  | _ => none }
def EventlogSealsWrongFalsely : Prop := eventlogSealsRow.holds Try.pinned (OpenSpec.ofChange eventlogSealsWrong)

/-- 'vmfleetlaw19.EventlogOpens': WHATEVER THE INPUT: true; the input reads as it did. -/
def eventlogOpensSpec : ChangeSpec := { name := "eventlogOpens", fn := fun _ => fun
  | [d1, d2, d3, d4] => { results := [.lit (.bool true)], args := [d1, d2, d3, d4] }
  | _ => none }
def eventlogOpensRow : OpenClaim := { program := "ytdacgdokbfcgdaa", sum := "82cf6ff4245e0a44fa0cb50de9a56a13c648623b2738eff0954b3d74170af7c4", func := "vmfleet/vmfleetlaw19.EventlogOpens", spec := "eventlogOpens", inPlace := ["internal/abi.NoEscape"], apart := false }
def EventlogOpensSaid : Prop := eventlogOpensRow.holds Try.pinned (OpenSpec.ofChange eventlogOpensSpec)

/-- ITS FALSE NEIGHBOUR: 'it returns false'. Refute it at one input. -/
def eventlogOpensWrong : ChangeSpec := { name := "eventlogOpens", fn := fun _ => fun
  | [d1, d2, d3, d4] => { results := [.lit (.bool false)], args := [d1, d2, d3, d4] }
  | _ => none }
def EventlogOpensWrongFalsely : Prop := eventlogOpensRow.holds Try.pinned (OpenSpec.ofChange eventlogOpensWrong)

/- THE SECOND FORM. 'bulk': how many values and letters a reading holds, each counted each time it is reached (what is shared counts as often as it is met; a slice's spare places count too). A statement '..UptoSaid' is the law's where the arguments, and the package variables that the reading takes, are together of bulk at most 1048576: NARROWER than '..Said'. Prove '..Said' where nothing that the law and all that it calls make is longer than what came in: it says more and counts as full. Else prove '..UptoSaid'. A law counts once. -/
mutual
def uptoBulk {H : Type} : DataW H → Nat
  | .lit (.string bytes) => bytes.length + 1
  | .lit _ => 1
  | .nil => 1
  | .ptr d => uptoBulk d + 1
  | .slice elems spare => uptoBulkAll elems + uptoBulkAll spare + 1
  | .agg parts => uptoBulkAll parts + 1
  | .iface _ d => uptoBulk d + 1
  | .map entries => uptoBulkEntries entries + 1
  | .held _ => 1
def uptoBulkAll {H : Type} : List (DataW H) → Nat
  | [] => 0
  | d :: r => uptoBulk d + uptoBulkAll r
def uptoBulkEntries {H : Type} : List (Lit × DataW H) → Nat
  | [] => 0
  | x :: r => uptoBulkEntry x + uptoBulkEntries r
def uptoBulkEntry {H : Type} : Lit × DataW H → Nat
  | (.string bytes, d) => bytes.length + uptoBulk d + 1
  | (_, d) => uptoBulk d + 1
 end
def uptoSmall : (H : Type) → List (DataW H) → Bool := fun _ ds => decide (uptoBulkAll ds ≤ 1048576)
def OpenSpec.upto (s : _root_.Go.ChangeSpec) : _root_.Go.OpenSpec := { _root_.Go.OpenSpec.ofChange s with cond := some uptoSmall }

/-- 'vmfleetlaw19.EventlogValid', WHERE WHAT IT READS IS OF BULK AT MOST 1048576: true; the input reads as it did. -/
def eventlogValidUptoRow : OpenClaim := { program := "ytdacgdokbfcgdaa", sum := "82cf6ff4245e0a44fa0cb50de9a56a13c648623b2738eff0954b3d74170af7c4", func := "vmfleet/vmfleetlaw19.EventlogValid", spec := "eventlogValid", inPlace := ["internal/abi.NoEscape"], apart := false, narrowed := true }
def EventlogValidUptoSaid : Prop := eventlogValidUptoRow.holds Try.pinned (OpenSpec.upto eventlogValidSpec)

/-- 'vmfleetlaw19.EventlogSeals', WHERE WHAT IT READS IS OF BULK AT MOST 1048576: true; the input reads as it did. -/
def eventlogSealsUptoRow : OpenClaim := { program := "ytdacgdokbfcgdaa", sum := "82cf6ff4245e0a44fa0cb50de9a56a13c648623b2738eff0954b3d74170af7c4", func := "vmfleet/vmfleetlaw19.EventlogSeals", spec := "eventlogSeals", inPlace := ["internal/abi.NoEscape"], apart := false, narrowed := true }
def EventlogSealsUptoSaid : Prop := eventlogSealsUptoRow.holds Try.pinned (OpenSpec.upto eventlogSealsSpec)

/-- 'vmfleetlaw19.EventlogOpens', WHERE WHAT IT READS IS OF BULK AT MOST 1048576: true; the input reads as it did. -/
def eventlogOpensUptoRow : OpenClaim := { program := "ytdacgdokbfcgdaa", sum := "82cf6ff4245e0a44fa0cb50de9a56a13c648623b2738eff0954b3d74170af7c4", func := "vmfleet/vmfleetlaw19.EventlogOpens", spec := "eventlogOpens", inPlace := ["internal/abi.NoEscape"], apart := false, narrowed := true }
def EventlogOpensUptoSaid : Prop := eventlogOpensUptoRow.holds Try.pinned (OpenSpec.upto eventlogOpensSpec)

end Rows
end Go.Proofs.Ytdacgdokbfcgdaa
