/-
  No cell of these rows narrows 'for every input' (looked for: loops, veiled, ifaces, maps, wideKeys, modest, calm, conditions, laid).
  DERIVED. THE GIVEN ROWS OF THIS SEAT. 10 by the template 'for every input the law returns true; each argument reads behind the call as it read before'; 0 by the template 'total and deterministic' (their statements: YtpgllpoclokcmaaTotals.lean).
  GIVEN WITH THE SEED: the statements are not yours to turn. If you find one false, say at which input.
  Laid BY PROGRAM, IN A SANDBOX (cutbox-rows.mjs): the forced cells as the released guide's own fill.sh prints them over the translation c0f5853c0787a5b2… (all of the seat's roots in one cut). By AI agents, Wed Nov 11 2026. No macro, syntax, notation, axiom, sorry.
-/
import Derived.Test.YtpgllpoclokcmaaChecked
import GoSem.Claim
import GoSem.ClaimJoined
import GoSem.ClaimMapViews
import Derived.JoinedTies
import Derived.KernelRfl
namespace Go.Proofs.Ytpgllpoclokcmaa
/- THE CELL 'sum', in the pinned program and in every row, IS THE sha256 OF THE DUMP (.gsa) THAT YtpgllpoclokcmaaProg.lean LOADS. Nothing in Lean hashes anything: it is a label: what it is worth is what the hold of that sum in a sandbox is worth. -/
noncomputable def Try.pinned : Pinned := { name := "ytpgllpoclokcmaa", sum := "c0f5853c0787a5b20c71ae382958fd428ba31007df945ef42ef6177767750a6c", checked := Try.checked }
namespace Rows
def none {H : Type} : Left H := { results := [], args := [] }

/-- 'vmfleetlaw1.BitsDivides': WHATEVER THE INPUT: true; the input reads as it did. -/
def bitsDividesSpec : ChangeSpec := { name := "bitsDivides", fn := fun _ => fun
  | [d1, d2] => { results := [.lit (.bool true)], args := [d1, d2] }
  | _ => none }
def bitsDividesRow : OpenClaim := { program := "ytpgllpoclokcmaa", sum := "c0f5853c0787a5b20c71ae382958fd428ba31007df945ef42ef6177767750a6c", func := "vmfleet/vmfleetlaw1.BitsDivides", spec := "bitsDivides", apart := false }
def BitsDividesSaid : Prop := bitsDividesRow.holds Try.pinned (OpenSpec.ofChange bitsDividesSpec)

/-- ITS FALSE NEIGHBOUR: 'it returns false'. Refute it at one input. -/
def bitsDividesWrong : ChangeSpec := { name := "bitsDivides", fn := fun _ => fun
  | [d1, d2] => { results := [.lit (.bool false)], args := [d1, d2] }
  | _ => none }
def BitsDividesWrongFalsely : Prop := bitsDividesRow.holds Try.pinned (OpenSpec.ofChange bitsDividesWrong)

/-- 'vmfleetlaw1.BitsRandom': WHATEVER THE INPUT: true; the input reads as it did. -/
def bitsRandomSpec : ChangeSpec := { name := "bitsRandom", fn := fun _ => fun
  | [d1, d2] => { results := [.lit (.bool true)], args := [d1, d2] }
  | _ => none }
def bitsRandomRow : OpenClaim := { program := "ytpgllpoclokcmaa", sum := "c0f5853c0787a5b20c71ae382958fd428ba31007df945ef42ef6177767750a6c", func := "vmfleet/vmfleetlaw1.BitsRandom", spec := "bitsRandom", apart := false }
def BitsRandomSaid : Prop := bitsRandomRow.holds Try.pinned (OpenSpec.ofChange bitsRandomSpec)

/-- ITS FALSE NEIGHBOUR: 'it returns false'. Refute it at one input. -/
def bitsRandomWrong : ChangeSpec := { name := "bitsRandom", fn := fun _ => fun
  | [d1, d2] => { results := [.lit (.bool false)], args := [d1, d2] }
  | _ => none }
def BitsRandomWrongFalsely : Prop := bitsRandomRow.holds Try.pinned (OpenSpec.ofChange bitsRandomWrong)

/-- 'vmfleetlaw1.BitsHashes': WHATEVER THE INPUT: true; the input reads as it did. -/
def bitsHashesSpec : ChangeSpec := { name := "bitsHashes", fn := fun _ => fun
  | [d1, d2, d3] => { results := [.lit (.bool true)], args := [d1, d2, d3] }
  | _ => none }
def bitsHashesRow : OpenClaim := { program := "ytpgllpoclokcmaa", sum := "c0f5853c0787a5b20c71ae382958fd428ba31007df945ef42ef6177767750a6c", func := "vmfleet/vmfleetlaw1.BitsHashes", spec := "bitsHashes", apart := false }
def BitsHashesSaid : Prop := bitsHashesRow.holds Try.pinned (OpenSpec.ofChange bitsHashesSpec)

/-- ITS FALSE NEIGHBOUR: 'it returns false'. Refute it at one input. -/
def bitsHashesWrong : ChangeSpec := { name := "bitsHashes", fn := fun _ => fun
  | [d1, d2, d3] => { results := [.lit (.bool false)], args := [d1, d2, d3] }
  | _ => none }
def BitsHashesWrongFalsely : Prop := bitsHashesRow.holds Try.pinned (OpenSpec.ofChange bitsHashesWrong)

/-- 'vmfleetlaw1.BitsDistinct': WHATEVER THE INPUT: true; the input reads as it did. -/
def bitsDistinctSpec : ChangeSpec := { name := "bitsDistinct", fn := fun _ => fun
  | [d1, d2, d3] => { results := [.lit (.bool true)], args := [d1, d2, d3] }
  | _ => none }
def bitsDistinctRow : OpenClaim := { program := "ytpgllpoclokcmaa", sum := "c0f5853c0787a5b20c71ae382958fd428ba31007df945ef42ef6177767750a6c", func := "vmfleet/vmfleetlaw1.BitsDistinct", spec := "bitsDistinct", apart := false }
def BitsDistinctSaid : Prop := bitsDistinctRow.holds Try.pinned (OpenSpec.ofChange bitsDistinctSpec)

/-- ITS FALSE NEIGHBOUR: 'it returns false'. Refute it at one input. -/
def bitsDistinctWrong : ChangeSpec := { name := "bitsDistinct", fn := fun _ => fun
  | [d1, d2, d3] => { results := [.lit (.bool false)], args := [d1, d2, d3] }
  | _ => none }
def BitsDistinctWrongFalsely : Prop := bitsDistinctRow.holds Try.pinned (OpenSpec.ofChange bitsDistinctWrong)

/-- 'vmfleetlaw1.BitsVarints': WHATEVER THE INPUT: true; the input reads as it did. -/
def bitsVarintsSpec : ChangeSpec := { name := "bitsVarints", fn := fun _ => fun
  | [d1, d2] => { results := [.lit (.bool true)], args := [d1, d2] }
  | _ => none }
def bitsVarintsRow : OpenClaim := { program := "ytpgllpoclokcmaa", sum := "c0f5853c0787a5b20c71ae382958fd428ba31007df945ef42ef6177767750a6c", func := "vmfleet/vmfleetlaw1.BitsVarints", spec := "bitsVarints", apart := false }
def BitsVarintsSaid : Prop := bitsVarintsRow.holds Try.pinned (OpenSpec.ofChange bitsVarintsSpec)

/-- ITS FALSE NEIGHBOUR: 'it returns false'. Refute it at one input. -/
def bitsVarintsWrong : ChangeSpec := { name := "bitsVarints", fn := fun _ => fun
  | [d1, d2] => { results := [.lit (.bool false)], args := [d1, d2] }
  | _ => none }
def BitsVarintsWrongFalsely : Prop := bitsVarintsRow.holds Try.pinned (OpenSpec.ofChange bitsVarintsWrong)

/-- 'vmfleetlaw1.BitsReads': WHATEVER THE INPUT: true; the input reads as it did. -/
def bitsReadsSpec : ChangeSpec := { name := "bitsReads", fn := fun _ => fun
  | [d] => { results := [.lit (.bool true)], args := [d] }
  | _ => none }
def bitsReadsRow : OpenClaim := { program := "ytpgllpoclokcmaa", sum := "c0f5853c0787a5b20c71ae382958fd428ba31007df945ef42ef6177767750a6c", func := "vmfleet/vmfleetlaw1.BitsReads", spec := "bitsReads", apart := false }
def BitsReadsSaid : Prop := bitsReadsRow.holds Try.pinned (OpenSpec.ofChange bitsReadsSpec)

/-- ITS FALSE NEIGHBOUR: 'it returns false'. Refute it at one input. -/
def bitsReadsWrong : ChangeSpec := { name := "bitsReads", fn := fun _ => fun
  | [d] => { results := [.lit (.bool false)], args := [d] }
  | _ => none }
def BitsReadsWrongFalsely : Prop := bitsReadsRow.holds Try.pinned (OpenSpec.ofChange bitsReadsWrong)

/-- 'vmfleetlaw1.BitsSequences': WHATEVER THE INPUT: true; the input reads as it did. -/
def bitsSequencesSpec : ChangeSpec := { name := "bitsSequences", fn := fun _ => fun
  | [d] => { results := [.lit (.bool true)], args := [d] }
  | _ => none }
def bitsSequencesRow : OpenClaim := { program := "ytpgllpoclokcmaa", sum := "c0f5853c0787a5b20c71ae382958fd428ba31007df945ef42ef6177767750a6c", func := "vmfleet/vmfleetlaw1.BitsSequences", spec := "bitsSequences", apart := false }
def BitsSequencesSaid : Prop := bitsSequencesRow.holds Try.pinned (OpenSpec.ofChange bitsSequencesSpec)

/-- ITS FALSE NEIGHBOUR: 'it returns false'. Refute it at one input. -/
def bitsSequencesWrong : ChangeSpec := { name := "bitsSequences", fn := fun _ => fun
  | [d] => { results := [.lit (.bool false)], args := [d] }
  | _ => none }
def BitsSequencesWrongFalsely : Prop := bitsSequencesRow.holds Try.pinned (OpenSpec.ofChange bitsSequencesWrong)

/-- 'vmfleetlaw1.BitsSigns': WHATEVER THE INPUT: true; the input reads as it did. -/
def bitsSignsSpec : ChangeSpec := { name := "bitsSigns", fn := fun _ => fun
  | [d1, d2] => { results := [.lit (.bool true)], args := [d1, d2] }
  | _ => none }
def bitsSignsRow : OpenClaim := { program := "ytpgllpoclokcmaa", sum := "c0f5853c0787a5b20c71ae382958fd428ba31007df945ef42ef6177767750a6c", func := "vmfleet/vmfleetlaw1.BitsSigns", spec := "bitsSigns", apart := false }
def BitsSignsSaid : Prop := bitsSignsRow.holds Try.pinned (OpenSpec.ofChange bitsSignsSpec)

/-- ITS FALSE NEIGHBOUR: 'it returns false'. Refute it at one input. -/
def bitsSignsWrong : ChangeSpec := { name := "bitsSigns", fn := fun _ => fun
  | [d1, d2] => { results := [.lit (.bool false)], args := [d1, d2] }
  | _ => none }
def BitsSignsWrongFalsely : Prop := bitsSignsRow.holds Try.pinned (OpenSpec.ofChange bitsSignsWrong)

/-- 'vmfleetlaw1.BitsFields': WHATEVER THE INPUT: true; the input reads as it did. -/
def bitsFieldsSpec : ChangeSpec := { name := "bitsFields", fn := fun _ => fun
  | [d1, d2, d3, d4] => { results := [.lit (.bool true)], args := [d1, d2, d3, d4] }
  | _ => none }
def bitsFieldsRow : OpenClaim := { program := "ytpgllpoclokcmaa", sum := "c0f5853c0787a5b20c71ae382958fd428ba31007df945ef42ef6177767750a6c", func := "vmfleet/vmfleetlaw1.BitsFields", spec := "bitsFields", apart := false }
def BitsFieldsSaid : Prop := bitsFieldsRow.holds Try.pinned (OpenSpec.ofChange bitsFieldsSpec)

/-- ITS FALSE NEIGHBOUR: 'it returns false'. Refute it at one input. -/
def bitsFieldsWrong : ChangeSpec := { name := "bitsFields", fn := fun _ => fun
  | [d1, d2, d3, d4] => { results := [.lit (.bool false)], args := [d1, d2, d3, d4] }
  | _ => none }
def BitsFieldsWrongFalsely : Prop := bitsFieldsRow.holds Try.pinned (OpenSpec.ofChange bitsFieldsWrong)

/-- 'vmfleetlaw1.BitsParts': WHATEVER THE INPUT: true; the input reads as it did. -/
def bitsPartsSpec : ChangeSpec := { name := "bitsParts", fn := fun _ => fun
  | [d1, d2, d3, d4] => { results := [.lit (.bool true)], args := [d1, d2, d3, d4] }
  | _ => none }
def bitsPartsRow : OpenClaim := { program := "ytpgllpoclokcmaa", sum := "c0f5853c0787a5b20c71ae382958fd428ba31007df945ef42ef6177767750a6c", func := "vmfleet/vmfleetlaw1.BitsParts", spec := "bitsParts", apart := false }
def BitsPartsSaid : Prop := bitsPartsRow.holds Try.pinned (OpenSpec.ofChange bitsPartsSpec)

/-- ITS FALSE NEIGHBOUR: 'it returns false'. Refute it at one input. -/
def bitsPartsWrong : ChangeSpec := { name := "bitsParts", fn := fun _ => fun
  | [d1, d2, d3, d4] => { results := [.lit (.bool false)], args := [d1, d2, d3, d4] }
  | _ => none }
def BitsPartsWrongFalsely : Prop := bitsPartsRow.holds Try.pinned (OpenSpec.ofChange bitsPartsWrong)

/- THE SECOND FORM. 'bulk': how many values and letters a reading holds, each counted each time it is reached (what is shared counts as often as it is met; a slice's spare places count too). A statement '..UptoSaid' is the law's where the arguments, and the package variables that the reading takes, are together of bulk at most 1048576: NARROWER than '..Said'. Prove '..Said' where nothing that the law and all that it calls make is longer than what came in: it says more and counts as full. Else prove '..UptoSaid'. A law counts once. -/
mutual
def uptoBulk {H : Type} : DataW H → Nat
  | .lit (.string bytes) => bytes.length + 1
  | .lit _ => 1
  | .nil => 1
  | .ptr d => uptoBulk d + 1
  | .slice elems spare => uptoBulkAll elems + uptoBulkAll spare + 1
  | .agg parts => uptoBulkAll parts + 1
  | .iface _ d => uptoBulk d + 1
  | .map entries => uptoBulkEntries entries + 1
  | .held _ => 1
def uptoBulkAll {H : Type} : List (DataW H) → Nat
  | [] => 0
  | d :: r => uptoBulk d + uptoBulkAll r
def uptoBulkEntries {H : Type} : List (Lit × DataW H) → Nat
  | [] => 0
  | x :: r => uptoBulkEntry x + uptoBulkEntries r
def uptoBulkEntry {H : Type} : Lit × DataW H → Nat
  | (.string bytes, d) => bytes.length + uptoBulk d + 1
  | (_, d) => uptoBulk d + 1
 end
def uptoSmall : (H : Type) → List (DataW H) → Bool := fun _ ds => decide (uptoBulkAll ds ≤ 1048576)
def OpenSpec.upto (s : _root_.Go.ChangeSpec) : _root_.Go.OpenSpec := { _root_.Go.OpenSpec.ofChange s with cond := some uptoSmall }

/-- 'vmfleetlaw1.BitsDivides', WHERE WHAT IT READS IS OF BULK AT MOST 1048576: true; the input reads as it did. -/
def bitsDividesUptoRow : OpenClaim := { program := "ytpgllpoclokcmaa", sum := "c0f5853c0787a5b20c71ae382958fd428ba31007df945ef42ef6177767750a6c", func := "vmfleet/vmfleetlaw1.BitsDivides", spec := "bitsDivides", apart := false, narrowed := true }
def BitsDividesUptoSaid : Prop := bitsDividesUptoRow.holds Try.pinned (OpenSpec.upto bitsDividesSpec)

/-- 'vmfleetlaw1.BitsRandom', WHERE WHAT IT READS IS OF BULK AT MOST 1048576: true; the input reads as it did. -/
def bitsRandomUptoRow : OpenClaim := { program := "ytpgllpoclokcmaa", sum := "c0f5853c0787a5b20c71ae382958fd428ba31007df945ef42ef6177767750a6c", func := "vmfleet/vmfleetlaw1.BitsRandom", spec := "bitsRandom", apart := false, narrowed := true }
def BitsRandomUptoSaid : Prop := bitsRandomUptoRow.holds Try.pinned (OpenSpec.upto bitsRandomSpec)

/-- 'vmfleetlaw1.BitsHashes', WHERE WHAT IT READS IS OF BULK AT MOST 1048576: true; the input reads as it did. -/
def bitsHashesUptoRow : OpenClaim := { program := "ytpgllpoclokcmaa", sum := "c0f5853c0787a5b20c71ae382958fd428ba31007df945ef42ef6177767750a6c", func := "vmfleet/vmfleetlaw1.BitsHashes", spec := "bitsHashes", apart := false, narrowed := true }
def BitsHashesUptoSaid : Prop := bitsHashesUptoRow.holds Try.pinned (OpenSpec.upto bitsHashesSpec)

/-- 'vmfleetlaw1.BitsDistinct', WHERE WHAT IT READS IS OF BULK AT MOST 1048576: true; the input reads as it did. -/
def bitsDistinctUptoRow : OpenClaim := { program := "ytpgllpoclokcmaa", sum := "c0f5853c0787a5b20c71ae382958fd428ba31007df945ef42ef6177767750a6c", func := "vmfleet/vmfleetlaw1.BitsDistinct", spec := "bitsDistinct", apart := false, narrowed := true }
def BitsDistinctUptoSaid : Prop := bitsDistinctUptoRow.holds Try.pinned (OpenSpec.upto bitsDistinctSpec)

/-- 'vmfleetlaw1.BitsVarints', WHERE WHAT IT READS IS OF BULK AT MOST 1048576: true; the input reads as it did. -/
def bitsVarintsUptoRow : OpenClaim := { program := "ytpgllpoclokcmaa", sum := "c0f5853c0787a5b20c71ae382958fd428ba31007df945ef42ef6177767750a6c", func := "vmfleet/vmfleetlaw1.BitsVarints", spec := "bitsVarints", apart := false, narrowed := true }
def BitsVarintsUptoSaid : Prop := bitsVarintsUptoRow.holds Try.pinned (OpenSpec.upto bitsVarintsSpec)

/-- 'vmfleetlaw1.BitsReads', WHERE WHAT IT READS IS OF BULK AT MOST 1048576: true; the input reads as it did. -/
def bitsReadsUptoRow : OpenClaim := { program := "ytpgllpoclokcmaa", sum := "c0f5853c0787a5b20c71ae382958fd428ba31007df945ef42ef6177767750a6c", func := "vmfleet/vmfleetlaw1.BitsReads", spec := "bitsReads", apart := false, narrowed := true }
def BitsReadsUptoSaid : Prop := bitsReadsUptoRow.holds Try.pinned (OpenSpec.upto bitsReadsSpec)

/-- 'vmfleetlaw1.BitsSequences', WHERE WHAT IT READS IS OF BULK AT MOST 1048576: true; the input reads as it did. -/
def bitsSequencesUptoRow : OpenClaim := { program := "ytpgllpoclokcmaa", sum := "c0f5853c0787a5b20c71ae382958fd428ba31007df945ef42ef6177767750a6c", func := "vmfleet/vmfleetlaw1.BitsSequences", spec := "bitsSequences", apart := false, narrowed := true }
def BitsSequencesUptoSaid : Prop := bitsSequencesUptoRow.holds Try.pinned (OpenSpec.upto bitsSequencesSpec)

/-- 'vmfleetlaw1.BitsSigns', WHERE WHAT IT READS IS OF BULK AT MOST 1048576: true; the input reads as it did. -/
def bitsSignsUptoRow : OpenClaim := { program := "ytpgllpoclokcmaa", sum := "c0f5853c0787a5b20c71ae382958fd428ba31007df945ef42ef6177767750a6c", func := "vmfleet/vmfleetlaw1.BitsSigns", spec := "bitsSigns", apart := false, narrowed := true }
def BitsSignsUptoSaid : Prop := bitsSignsUptoRow.holds Try.pinned (OpenSpec.upto bitsSignsSpec)

/-- 'vmfleetlaw1.BitsFields', WHERE WHAT IT READS IS OF BULK AT MOST 1048576: true; the input reads as it did. -/
def bitsFieldsUptoRow : OpenClaim := { program := "ytpgllpoclokcmaa", sum := "c0f5853c0787a5b20c71ae382958fd428ba31007df945ef42ef6177767750a6c", func := "vmfleet/vmfleetlaw1.BitsFields", spec := "bitsFields", apart := false, narrowed := true }
def BitsFieldsUptoSaid : Prop := bitsFieldsUptoRow.holds Try.pinned (OpenSpec.upto bitsFieldsSpec)

/-- 'vmfleetlaw1.BitsParts', WHERE WHAT IT READS IS OF BULK AT MOST 1048576: true; the input reads as it did. -/
def bitsPartsUptoRow : OpenClaim := { program := "ytpgllpoclokcmaa", sum := "c0f5853c0787a5b20c71ae382958fd428ba31007df945ef42ef6177767750a6c", func := "vmfleet/vmfleetlaw1.BitsParts", spec := "bitsParts", apart := false, narrowed := true }
def BitsPartsUptoSaid : Prop := bitsPartsUptoRow.holds Try.pinned (OpenSpec.upto bitsPartsSpec)

end Rows
end Go.Proofs.Ytpgllpoclokcmaa
