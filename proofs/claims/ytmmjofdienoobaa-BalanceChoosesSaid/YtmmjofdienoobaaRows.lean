/-
  No cell of these rows narrows 'for every input' (looked for: loops, veiled, ifaces, maps, wideKeys, modest, calm, conditions, laid).
  DERIVED. THE GIVEN ROWS OF THIS SEAT. 6 by the template 'for every input the law returns true; each argument reads behind the call as it read before'; 0 by the template 'total and deterministic' (their statements: YtmmjofdienoobaaTotals.lean).
  GIVEN WITH THE SEED: the statements are not yours to turn. If you find one false, say at which input.
  Laid BY PROGRAM, IN A SANDBOX (cutbox-rows.mjs): the forced cells as the released guide's own fill.sh prints them over the translation 6285e95fe27e2b84… (all of the seat's roots in one cut). By AI agents, Wed Nov 11 2026. No macro, syntax, notation, axiom, sorry.
-/
import Derived.Test.YtmmjofdienoobaaChecked
import GoSem.Claim
import GoSem.ClaimJoined
import GoSem.ClaimMapViews
import Derived.JoinedTies
import Derived.KernelRfl
namespace Go.Proofs.Ytmmjofdienoobaa
/- THE CELL 'sum', in the pinned program and in every row, IS THE sha256 OF THE DUMP (.gsa) THAT YtmmjofdienoobaaProg.lean LOADS. Nothing in Lean hashes anything: it is a label: what it is worth is what the hold of that sum in a sandbox is worth. -/
noncomputable def Try.pinned : Pinned := { name := "ytmmjofdienoobaa", sum := "6285e95fe27e2b841b89fea99f7aee4de540bbce53718a471b39128b76fcdc4e", checked := Try.checked }
namespace Rows
def none {H : Type} : Left H := { results := [], args := [] }

/-- 'vmfleetlaw40.BalanceAssigns': WHATEVER THE INPUT: true; the input reads as it did. -/
def balanceAssignsSpec : ChangeSpec := { name := "balanceAssigns", fn := fun _ => fun
  | [d1, d2, d3] => { results := [.lit (.bool true)], args := [d1, d2, d3] }
  | _ => none }
def balanceAssignsRow : OpenClaim := { program := "ytmmjofdienoobaa", sum := "6285e95fe27e2b841b89fea99f7aee4de540bbce53718a471b39128b76fcdc4e", func := "vmfleet/vmfleetlaw40.BalanceAssigns", spec := "balanceAssigns", recurses := true, apart := false }
def BalanceAssignsSaid : Prop := balanceAssignsRow.holds Try.pinned (OpenSpec.ofChange balanceAssignsSpec)

/-- ITS FALSE NEIGHBOUR: 'it returns false'. Refute it at one input. -/
def balanceAssignsWrong : ChangeSpec := { name := "balanceAssigns", fn := fun _ => fun
  | [d1, d2, d3] => { results := [.lit (.bool false)], args := [d1, d2, d3] }
  | _ => none }
def BalanceAssignsWrongFalsely : Prop := balanceAssignsRow.holds Try.pinned (OpenSpec.ofChange balanceAssignsWrong)

/-- 'vmfleetlaw40.BalanceEvacuates': WHATEVER THE INPUT: true; the input reads as it did. -/
def balanceEvacuatesSpec : ChangeSpec := { name := "balanceEvacuates", fn := fun _ => fun
  | [d1, d2, d3] => { results := [.lit (.bool true)], args := [d1, d2, d3] }
  | _ => none }
def balanceEvacuatesRow : OpenClaim := { program := "ytmmjofdienoobaa", sum := "6285e95fe27e2b841b89fea99f7aee4de540bbce53718a471b39128b76fcdc4e", func := "vmfleet/vmfleetlaw40.BalanceEvacuates", spec := "balanceEvacuates", recurses := true, apart := false }
def BalanceEvacuatesSaid : Prop := balanceEvacuatesRow.holds Try.pinned (OpenSpec.ofChange balanceEvacuatesSpec)

/-- ITS FALSE NEIGHBOUR: 'it returns false'. Refute it at one input. -/
def balanceEvacuatesWrong : ChangeSpec := { name := "balanceEvacuates", fn := fun _ => fun
  | [d1, d2, d3] => { results := [.lit (.bool false)], args := [d1, d2, d3] }
  | _ => none }
def BalanceEvacuatesWrongFalsely : Prop := balanceEvacuatesRow.holds Try.pinned (OpenSpec.ofChange balanceEvacuatesWrong)

/-- 'vmfleetlaw40.BalanceChooses': WHATEVER THE INPUT: true; the input reads as it did. -/
def balanceChoosesSpec : ChangeSpec := { name := "balanceChooses", fn := fun _ => fun
  | [d1, d2, d3, d4] => { results := [.lit (.bool true)], args := [d1, d2, d3, d4] }
  | _ => none }
def balanceChoosesRow : OpenClaim := { program := "ytmmjofdienoobaa", sum := "6285e95fe27e2b841b89fea99f7aee4de540bbce53718a471b39128b76fcdc4e", func := "vmfleet/vmfleetlaw40.BalanceChooses", spec := "balanceChooses", recurses := true, apart := false }
def BalanceChoosesSaid : Prop := balanceChoosesRow.holds Try.pinned (OpenSpec.ofChange balanceChoosesSpec)

/-- ITS FALSE NEIGHBOUR: 'it returns false'. Refute it at one input. -/
def balanceChoosesWrong : ChangeSpec := { name := "balanceChooses", fn := fun _ => fun
  | [d1, d2, d3, d4] => { results := [.lit (.bool false)], args := [d1, d2, d3, d4] }
  | _ => none }
def BalanceChoosesWrongFalsely : Prop := balanceChoosesRow.holds Try.pinned (OpenSpec.ofChange balanceChoosesWrong)

/-- 'vmfleetlaw40.BalanceTells': WHATEVER THE INPUT: true; the input reads as it did. -/
def balanceTellsSpec : ChangeSpec := { name := "balanceTells", fn := fun _ => fun
  | [d1, d2, d3, d4, d5, d6, d7] => { results := [.lit (.bool true)], args := [d1, d2, d3, d4, d5, d6, d7] }
  | _ => none }
def balanceTellsRow : OpenClaim := { program := "ytmmjofdienoobaa", sum := "6285e95fe27e2b841b89fea99f7aee4de540bbce53718a471b39128b76fcdc4e", func := "vmfleet/vmfleetlaw40.BalanceTells", spec := "balanceTells", recurses := true, apart := false }
def BalanceTellsSaid : Prop := balanceTellsRow.holds Try.pinned (OpenSpec.ofChange balanceTellsSpec)

/-- ITS FALSE NEIGHBOUR: 'it returns false'. Refute it at one input. -/
def balanceTellsWrong : ChangeSpec := { name := "balanceTells", fn := fun _ => fun
  | [d1, d2, d3, d4, d5, d6, d7] => { results := [.lit (.bool false)], args := [d1, d2, d3, d4, d5, d6, d7] }
  | _ => none }
def BalanceTellsWrongFalsely : Prop := balanceTellsRow.holds Try.pinned (OpenSpec.ofChange balanceTellsWrong)

/-- 'vmfleetlaw40.BalanceMade': WHATEVER THE INPUT: true; the input reads as it did. -/
def balanceMadeSpec : ChangeSpec := { name := "balanceMade", fn := fun _ => fun
  | [d1, d2, d3, d4, d5] => { results := [.lit (.bool true)], args := [d1, d2, d3, d4, d5] }
  | _ => none }
def balanceMadeRow : OpenClaim := { program := "ytmmjofdienoobaa", sum := "6285e95fe27e2b841b89fea99f7aee4de540bbce53718a471b39128b76fcdc4e", func := "vmfleet/vmfleetlaw40.BalanceMade", spec := "balanceMade", recurses := true, apart := false }
def BalanceMadeSaid : Prop := balanceMadeRow.holds Try.pinned (OpenSpec.ofChange balanceMadeSpec)

/-- ITS FALSE NEIGHBOUR: 'it returns false'. Refute it at one input. -/
def balanceMadeWrong : ChangeSpec := { name := "balanceMade", fn := fun _ => fun
  | [d1, d2, d3, d4, d5] => { results := [.lit (.bool false)], args := [d1, d2, d3, d4, d5] }
  | _ => none }
def BalanceMadeWrongFalsely : Prop := balanceMadeRow.holds Try.pinned (OpenSpec.ofChange balanceMadeWrong)

/-- 'vmfleetlaw40.BalanceMoves': WHATEVER THE INPUT: true; the input reads as it did. -/
def balanceMovesSpec : ChangeSpec := { name := "balanceMoves", fn := fun _ => fun
  | [d1, d2] => { results := [.lit (.bool true)], args := [d1, d2] }
  | _ => none }
def balanceMovesRow : OpenClaim := { program := "ytmmjofdienoobaa", sum := "6285e95fe27e2b841b89fea99f7aee4de540bbce53718a471b39128b76fcdc4e", func := "vmfleet/vmfleetlaw40.BalanceMoves", spec := "balanceMoves", recurses := true, apart := false }
def BalanceMovesSaid : Prop := balanceMovesRow.holds Try.pinned (OpenSpec.ofChange balanceMovesSpec)

/-- ITS FALSE NEIGHBOUR: 'it returns false'. Refute it at one input. -/
def balanceMovesWrong : ChangeSpec := { name := "balanceMoves", fn := fun _ => fun
  | [d1, d2] => { results := [.lit (.bool false)], args := [d1, d2] }
  | _ => none }
def BalanceMovesWrongFalsely : Prop := balanceMovesRow.holds Try.pinned (OpenSpec.ofChange balanceMovesWrong)

/- THE SECOND FORM. 'bulk': how many values and letters a reading holds, each counted each time it is reached (what is shared counts as often as it is met; a slice's spare places count too). A statement '..UptoSaid' is the law's where the arguments, and the package variables that the reading takes, are together of bulk at most 1048576: NARROWER than '..Said'. Prove '..Said' where nothing that the law and all that it calls make is longer than what came in: it says more and counts as full. Else prove '..UptoSaid'. A law counts once. -/
mutual
def uptoBulk {H : Type} : DataW H → Nat
  | .lit (.string bytes) => bytes.length + 1
  | .lit _ => 1
  | .nil => 1
  | .ptr d => uptoBulk d + 1
  | .slice elems spare => uptoBulkAll elems + uptoBulkAll spare + 1
  | .agg parts => uptoBulkAll parts + 1
  | .iface _ d => uptoBulk d + 1
  | .map entries => uptoBulkEntries entries + 1
  | .held _ => 1
def uptoBulkAll {H : Type} : List (DataW H) → Nat
  | [] => 0
  | d :: r => uptoBulk d + uptoBulkAll r
def uptoBulkEntries {H : Type} : List (Lit × DataW H) → Nat
  | [] => 0
  | x :: r => uptoBulkEntry x + uptoBulkEntries r
def uptoBulkEntry {H : Type} : Lit × DataW H → Nat
  | (.string bytes, d) => bytes.length + uptoBulk d + 1
  | (_, d) => uptoBulk d + 1
 end
def uptoSmall : (H : Type) → List (DataW H) → Bool := fun _ ds => decide (uptoBulkAll ds ≤ 1048576)
def OpenSpec.upto (s : _root_.Go.ChangeSpec) : _root_.Go.OpenSpec := { _root_.Go.OpenSpec.ofChange s with cond := some uptoSmall }

/-- 'vmfleetlaw40.BalanceAssigns', WHERE WHAT IT READS IS OF BULK AT MOST 1048576: true; the input reads as it did. -/
def balanceAssignsUptoRow : OpenClaim := { program := "ytmmjofdienoobaa", sum := "6285e95fe27e2b841b89fea99f7aee4de540bbce53718a471b39128b76fcdc4e", func := "vmfleet/vmfleetlaw40.BalanceAssigns", spec := "balanceAssigns", recurses := true, apart := false, narrowed := true }
def BalanceAssignsUptoSaid : Prop := balanceAssignsUptoRow.holds Try.pinned (OpenSpec.upto balanceAssignsSpec)

/-- 'vmfleetlaw40.BalanceEvacuates', WHERE WHAT IT READS IS OF BULK AT MOST 1048576: true; the input reads as it did. -/
def balanceEvacuatesUptoRow : OpenClaim := { program := "ytmmjofdienoobaa", sum := "6285e95fe27e2b841b89fea99f7aee4de540bbce53718a471b39128b76fcdc4e", func := "vmfleet/vmfleetlaw40.BalanceEvacuates", spec := "balanceEvacuates", recurses := true, apart := false, narrowed := true }
def BalanceEvacuatesUptoSaid : Prop := balanceEvacuatesUptoRow.holds Try.pinned (OpenSpec.upto balanceEvacuatesSpec)

/-- 'vmfleetlaw40.BalanceChooses', WHERE WHAT IT READS IS OF BULK AT MOST 1048576: true; the input reads as it did. -/
def balanceChoosesUptoRow : OpenClaim := { program := "ytmmjofdienoobaa", sum := "6285e95fe27e2b841b89fea99f7aee4de540bbce53718a471b39128b76fcdc4e", func := "vmfleet/vmfleetlaw40.BalanceChooses", spec := "balanceChooses", recurses := true, apart := false, narrowed := true }
def BalanceChoosesUptoSaid : Prop := balanceChoosesUptoRow.holds Try.pinned (OpenSpec.upto balanceChoosesSpec)

/-- 'vmfleetlaw40.BalanceTells', WHERE WHAT IT READS IS OF BULK AT MOST 1048576: true; the input reads as it did. -/
def balanceTellsUptoRow : OpenClaim := { program := "ytmmjofdienoobaa", sum := "6285e95fe27e2b841b89fea99f7aee4de540bbce53718a471b39128b76fcdc4e", func := "vmfleet/vmfleetlaw40.BalanceTells", spec := "balanceTells", recurses := true, apart := false, narrowed := true }
def BalanceTellsUptoSaid : Prop := balanceTellsUptoRow.holds Try.pinned (OpenSpec.upto balanceTellsSpec)

/-- 'vmfleetlaw40.BalanceMade', WHERE WHAT IT READS IS OF BULK AT MOST 1048576: true; the input reads as it did. -/
def balanceMadeUptoRow : OpenClaim := { program := "ytmmjofdienoobaa", sum := "6285e95fe27e2b841b89fea99f7aee4de540bbce53718a471b39128b76fcdc4e", func := "vmfleet/vmfleetlaw40.BalanceMade", spec := "balanceMade", recurses := true, apart := false, narrowed := true }
def BalanceMadeUptoSaid : Prop := balanceMadeUptoRow.holds Try.pinned (OpenSpec.upto balanceMadeSpec)

/-- 'vmfleetlaw40.BalanceMoves', WHERE WHAT IT READS IS OF BULK AT MOST 1048576: true; the input reads as it did. -/
def balanceMovesUptoRow : OpenClaim := { program := "ytmmjofdienoobaa", sum := "6285e95fe27e2b841b89fea99f7aee4de540bbce53718a471b39128b76fcdc4e", func := "vmfleet/vmfleetlaw40.BalanceMoves", spec := "balanceMoves", recurses := true, apart := false, narrowed := true }
def BalanceMovesUptoSaid : Prop := balanceMovesUptoRow.holds Try.pinned (OpenSpec.upto balanceMovesSpec)

end Rows
end Go.Proofs.Ytmmjofdienoobaa
