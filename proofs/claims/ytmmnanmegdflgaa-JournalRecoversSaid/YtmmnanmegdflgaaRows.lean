/-
  No cell of these rows narrows 'for every input' (looked for: loops, veiled, ifaces, maps, wideKeys, modest, calm, conditions, laid).
  DERIVED. THE GIVEN ROWS OF THIS SEAT. 6 by the template 'for every input the law returns true; each argument reads behind the call as it read before'; 0 by the template 'total and deterministic' (their statements: YtmmnanmegdflgaaTotals.lean).
  GIVEN WITH THE SEED: the statements are not yours to turn. If you find one false, say at which input.
  Laid BY PROGRAM, IN A SANDBOX (cutbox-rows.mjs): the forced cells as the released guide's own fill.sh prints them over the translation b479fbdb00196317… (all of the seat's roots in one cut). By AI agents, Wed Nov 11 2026. No macro, syntax, notation, axiom, sorry.
-/
import Derived.Test.YtmmnanmegdflgaaChecked
import GoSem.Claim
import GoSem.ClaimJoined
import GoSem.ClaimMapViews
import Derived.JoinedTies
import Derived.KernelRfl
namespace Go.Proofs.Ytmmnanmegdflgaa
/- THE CELL 'sum', in the pinned program and in every row, IS THE sha256 OF THE DUMP (.gsa) THAT YtmmnanmegdflgaaProg.lean LOADS. Nothing in Lean hashes anything: it is a label: what it is worth is what the hold of that sum in a sandbox is worth. -/
noncomputable def Try.pinned : Pinned := { name := "ytmmnanmegdflgaa", sum := "b479fbdb00196317cce5b9bc2d4348617a304688848961e726bbd8d536fcde16", checked := Try.checked }
namespace Rows
def none {H : Type} : Left H := { results := [], args := [] }

/-- 'vmfleetlaw42.JournalCodes': WHATEVER THE INPUT: true; the input reads as it did. -/
def journalCodesSpec : ChangeSpec := { name := "journalCodes", fn := fun _ => fun
  | [d1, d2] => { results := [.lit (.bool true)], args := [d1, d2] }
  | _ => none }
def journalCodesRow : OpenClaim := { program := "ytmmnanmegdflgaa", sum := "b479fbdb00196317cce5b9bc2d4348617a304688848961e726bbd8d536fcde16", func := "vmfleet/vmfleetlaw42.JournalCodes", spec := "journalCodes", inPlace := ["internal/bytealg.abigen_runtime_cmpstring", "slices.overlaps[vmfleet/api.Placed]"], unfollowed := true, recurses := true, apart := false }
def JournalCodesSaid : Prop := journalCodesRow.holds Try.pinned (OpenSpec.ofChange journalCodesSpec)

/-- ITS FALSE NEIGHBOUR: 'it returns false'. Refute it at one input. -/
def journalCodesWrong : ChangeSpec := { name := "journalCodes", fn := fun _ => fun
  | [d1, d2] => { results := [.lit (.bool false)], args := [d1, d2] }
  | _ => none }
def JournalCodesWrongFalsely : Prop := journalCodesRow.holds Try.pinned (OpenSpec.ofChange journalCodesWrong)

/-- 'vmfleetlaw42.JournalReached': WHATEVER THE INPUT: true; the input reads as it did. -/
def journalReachedSpec : ChangeSpec := { name := "journalReached", fn := fun _ => fun
  | [d] => { results := [.lit (.bool true)], args := [d] }
  | _ => none }
def journalReachedRow : OpenClaim := { program := "ytmmnanmegdflgaa", sum := "b479fbdb00196317cce5b9bc2d4348617a304688848961e726bbd8d536fcde16", func := "vmfleet/vmfleetlaw42.JournalReached", spec := "journalReached", inPlace := ["internal/bytealg.abigen_runtime_cmpstring", "slices.overlaps[vmfleet/api.Placed]"], unfollowed := true, recurses := true, apart := false }
def JournalReachedSaid : Prop := journalReachedRow.holds Try.pinned (OpenSpec.ofChange journalReachedSpec)

/-- ITS FALSE NEIGHBOUR: 'it returns false'. Refute it at one input. -/
def journalReachedWrong : ChangeSpec := { name := "journalReached", fn := fun _ => fun
  | [d] => { results := [.lit (.bool false)], args := [d] }
  | _ => none }
def JournalReachedWrongFalsely : Prop := journalReachedRow.holds Try.pinned (OpenSpec.ofChange journalReachedWrong)

/-- 'vmfleetlaw42.JournalRecovers': WHATEVER THE INPUT: true; the input reads as it did. -/
def journalRecoversSpec : ChangeSpec := { name := "journalRecovers", fn := fun _ => fun
  | [d1, d2, d3] => { results := [.lit (.bool true)], args := [d1, d2, d3] }
  | _ => none }
def journalRecoversRow : OpenClaim := { program := "ytmmnanmegdflgaa", sum := "b479fbdb00196317cce5b9bc2d4348617a304688848961e726bbd8d536fcde16", func := "vmfleet/vmfleetlaw42.JournalRecovers", spec := "journalRecovers", inPlace := ["internal/bytealg.abigen_runtime_cmpstring", "slices.overlaps[vmfleet/api.Placed]"], unfollowed := true, recurses := true, apart := false }
def JournalRecoversSaid : Prop := journalRecoversRow.holds Try.pinned (OpenSpec.ofChange journalRecoversSpec)

/-- ITS FALSE NEIGHBOUR: 'it returns false'. Refute it at one input. -/
def journalRecoversWrong : ChangeSpec := { name := "journalRecovers", fn := fun _ => fun
  | [d1, d2, d3] => { results := [.lit (.bool false)], args := [d1, d2, d3] }
  | _ => none }
def JournalRecoversWrongFalsely : Prop := journalRecoversRow.holds Try.pinned (OpenSpec.ofChange journalRecoversWrong)

/-- 'vmfleetlaw42.JournalSpoilt': WHATEVER THE INPUT: true; the input reads as it did. -/
def journalSpoiltSpec : ChangeSpec := { name := "journalSpoilt", fn := fun _ => fun
  | [d1, d2, d3] => { results := [.lit (.bool true)], args := [d1, d2, d3] }
  | _ => none }
def journalSpoiltRow : OpenClaim := { program := "ytmmnanmegdflgaa", sum := "b479fbdb00196317cce5b9bc2d4348617a304688848961e726bbd8d536fcde16", func := "vmfleet/vmfleetlaw42.JournalSpoilt", spec := "journalSpoilt", inPlace := ["internal/bytealg.abigen_runtime_cmpstring", "slices.overlaps[vmfleet/api.Placed]"], unfollowed := true, recurses := true, apart := false }
def JournalSpoiltSaid : Prop := journalSpoiltRow.holds Try.pinned (OpenSpec.ofChange journalSpoiltSpec)

/-- ITS FALSE NEIGHBOUR: 'it returns false'. Refute it at one input. -/
def journalSpoiltWrong : ChangeSpec := { name := "journalSpoilt", fn := fun _ => fun
  | [d1, d2, d3] => { results := [.lit (.bool false)], args := [d1, d2, d3] }
  | _ => none }
def JournalSpoiltWrongFalsely : Prop := journalSpoiltRow.holds Try.pinned (OpenSpec.ofChange journalSpoiltWrong)

/-- 'vmfleetlaw42.JournalTells': WHATEVER THE INPUT: true; the input reads as it did. -/
def journalTellsSpec : ChangeSpec := { name := "journalTells", fn := fun _ => fun
  | [d1, d2, d3, d4] => { results := [.lit (.bool true)], args := [d1, d2, d3, d4] }
  | _ => none }
def journalTellsRow : OpenClaim := { program := "ytmmnanmegdflgaa", sum := "b479fbdb00196317cce5b9bc2d4348617a304688848961e726bbd8d536fcde16", func := "vmfleet/vmfleetlaw42.JournalTells", spec := "journalTells", inPlace := ["internal/bytealg.abigen_runtime_cmpstring", "slices.overlaps[vmfleet/api.Placed]"], unfollowed := true, recurses := true, apart := false }
def JournalTellsSaid : Prop := journalTellsRow.holds Try.pinned (OpenSpec.ofChange journalTellsSpec)

/-- ITS FALSE NEIGHBOUR: 'it returns false'. Refute it at one input. -/
def journalTellsWrong : ChangeSpec := { name := "journalTells", fn := fun _ => fun
  | [d1, d2, d3, d4] => { results := [.lit (.bool false)], args := [d1, d2, d3, d4] }
  | _ => none }
def JournalTellsWrongFalsely : Prop := journalTellsRow.holds Try.pinned (OpenSpec.ofChange journalTellsWrong)

/-- 'vmfleetlaw42.JournalCheckpoints': WHATEVER THE INPUT: true; the input reads as it did. -/
def journalCheckpointsSpec : ChangeSpec := { name := "journalCheckpoints", fn := fun _ => fun
  | [d] => { results := [.lit (.bool true)], args := [d] }
  | _ => none }
def journalCheckpointsRow : OpenClaim := { program := "ytmmnanmegdflgaa", sum := "b479fbdb00196317cce5b9bc2d4348617a304688848961e726bbd8d536fcde16", func := "vmfleet/vmfleetlaw42.JournalCheckpoints", spec := "journalCheckpoints", inPlace := ["internal/bytealg.abigen_runtime_cmpstring", "slices.overlaps[vmfleet/api.Placed]"], unfollowed := true, recurses := true, apart := false }
def JournalCheckpointsSaid : Prop := journalCheckpointsRow.holds Try.pinned (OpenSpec.ofChange journalCheckpointsSpec)

/-- ITS FALSE NEIGHBOUR: 'it returns false'. Refute it at one input. -/
def journalCheckpointsWrong : ChangeSpec := { name := "journalCheckpoints", fn := fun _ => fun
  | [d] => { results := [.lit (.bool false)], args := [d] }
  | _ => none }
def JournalCheckpointsWrongFalsely : Prop := journalCheckpointsRow.holds Try.pinned (OpenSpec.ofChange journalCheckpointsWrong)

/- THE SECOND FORM. 'bulk': how many values and letters a reading holds, each counted each time it is reached (what is shared counts as often as it is met; a slice's spare places count too). A statement '..UptoSaid' is the law's where the arguments, and the package variables that the reading takes, are together of bulk at most 1048576: NARROWER than '..Said'. Prove '..Said' where nothing that the law and all that it calls make is longer than what came in: it says more and counts as full. Else prove '..UptoSaid'. A law counts once. -/
mutual
def uptoBulk {H : Type} : DataW H → Nat
  | .lit (.string bytes) => bytes.length + 1
  | .lit _ => 1
  | .nil => 1
  | .ptr d => uptoBulk d + 1
  | .slice elems spare => uptoBulkAll elems + uptoBulkAll spare + 1
  | .agg parts => uptoBulkAll parts + 1
  | .iface _ d => uptoBulk d + 1
  | .map entries => uptoBulkEntries entries + 1
  | .held _ => 1
def uptoBulkAll {H : Type} : List (DataW H) → Nat
  | [] => 0
  | d :: r => uptoBulk d + uptoBulkAll r
def uptoBulkEntries {H : Type} : List (Lit × DataW H) → Nat
  | [] => 0
  | x :: r => uptoBulkEntry x + uptoBulkEntries r
def uptoBulkEntry {H : Type} : Lit × DataW H → Nat
  | (.string bytes, d) => bytes.length + uptoBulk d + 1
  | (_, d) => uptoBulk d + 1
 end
def uptoSmall : (H : Type) → List (DataW H) → Bool := fun _ ds => decide (uptoBulkAll ds ≤ 1048576)
def OpenSpec.upto (s : _root_.Go.ChangeSpec) : _root_.Go.OpenSpec := { _root_.Go.OpenSpec.ofChange s with cond := some uptoSmall }

/-- 'vmfleetlaw42.JournalCodes', WHERE WHAT IT READS IS OF BULK AT MOST 1048576: true; the input reads as it did. -/
def journalCodesUptoRow : OpenClaim := { program := "ytmmnanmegdflgaa", sum := "b479fbdb00196317cce5b9bc2d4348617a304688848961e726bbd8d536fcde16", func := "vmfleet/vmfleetlaw42.JournalCodes", spec := "journalCodes", inPlace := ["internal/bytealg.abigen_runtime_cmpstring", "slices.overlaps[vmfleet/api.Placed]"], unfollowed := true, recurses := true, apart := false, narrowed := true }
def JournalCodesUptoSaid : Prop := journalCodesUptoRow.holds Try.pinned (OpenSpec.upto journalCodesSpec)

/-- 'vmfleetlaw42.JournalReached', WHERE WHAT IT READS IS OF BULK AT MOST 1048576: true; the input reads as it did. -/
def journalReachedUptoRow : OpenClaim := { program := "ytmmnanmegdflgaa", sum := "b479fbdb00196317cce5b9bc2d4348617a304688848961e726bbd8d536fcde16", func := "vmfleet/vmfleetlaw42.JournalReached", spec := "journalReached", inPlace := ["internal/bytealg.abigen_runtime_cmpstring", "slices.overlaps[vmfleet/api.Placed]"], unfollowed := true, recurses := true, apart := false, narrowed := true }
def JournalReachedUptoSaid : Prop := journalReachedUptoRow.holds Try.pinned (OpenSpec.upto journalReachedSpec)

/-- 'vmfleetlaw42.JournalRecovers', WHERE WHAT IT READS IS OF BULK AT MOST 1048576: true; the input reads as it did. -/
def journalRecoversUptoRow : OpenClaim := { program := "ytmmnanmegdflgaa", sum := "b479fbdb00196317cce5b9bc2d4348617a304688848961e726bbd8d536fcde16", func := "vmfleet/vmfleetlaw42.JournalRecovers", spec := "journalRecovers", inPlace := ["internal/bytealg.abigen_runtime_cmpstring", "slices.overlaps[vmfleet/api.Placed]"], unfollowed := true, recurses := true, apart := false, narrowed := true }
def JournalRecoversUptoSaid : Prop := journalRecoversUptoRow.holds Try.pinned (OpenSpec.upto journalRecoversSpec)

/-- 'vmfleetlaw42.JournalSpoilt', WHERE WHAT IT READS IS OF BULK AT MOST 1048576: true; the input reads as it did. -/
def journalSpoiltUptoRow : OpenClaim := { program := "ytmmnanmegdflgaa", sum := "b479fbdb00196317cce5b9bc2d4348617a304688848961e726bbd8d536fcde16", func := "vmfleet/vmfleetlaw42.JournalSpoilt", spec := "journalSpoilt", inPlace := ["internal/bytealg.abigen_runtime_cmpstring", "slices.overlaps[vmfleet/api.Placed]"], unfollowed := true, recurses := true, apart := false, narrowed := true }
def JournalSpoiltUptoSaid : Prop := journalSpoiltUptoRow.holds Try.pinned (OpenSpec.upto journalSpoiltSpec)

/-- 'vmfleetlaw42.JournalTells', WHERE WHAT IT READS IS OF BULK AT MOST 1048576: true; the input reads as it did. -/
def journalTellsUptoRow : OpenClaim := { program := "ytmmnanmegdflgaa", sum := "b479fbdb00196317cce5b9bc2d4348617a304688848961e726bbd8d536fcde16", func := "vmfleet/vmfleetlaw42.JournalTells", spec := "journalTells", inPlace := ["internal/bytealg.abigen_runtime_cmpstring", "slices.overlaps[vmfleet/api.Placed]"], unfollowed := true, recurses := true, apart := false, narrowed := true }
def JournalTellsUptoSaid : Prop := journalTellsUptoRow.holds Try.pinned (OpenSpec.upto journalTellsSpec)

/-- 'vmfleetlaw42.JournalCheckpoints', WHERE WHAT IT READS IS OF BULK AT MOST 1048576: true; the input reads as it did. -/
def journalCheckpointsUptoRow : OpenClaim := { program := "ytmmnanmegdflgaa", sum := "b479fbdb00196317cce5b9bc2d4348617a304688848961e726bbd8d536fcde16", func := "vmfleet/vmfleetlaw42.JournalCheckpoints", spec := "journalCheckpoints", inPlace := ["internal/bytealg.abigen_runtime_cmpstring", "slices.overlaps[vmfleet/api.Placed]"], unfollowed := true, recurses := true, apart := false, narrowed := true }
def JournalCheckpointsUptoSaid : Prop := journalCheckpointsUptoRow.holds Try.pinned (OpenSpec.upto journalCheckpointsSpec)

end Rows
end Go.Proofs.Ytmmnanmegdflgaa
