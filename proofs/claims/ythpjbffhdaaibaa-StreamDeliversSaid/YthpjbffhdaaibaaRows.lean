/-
  No cell of these rows narrows 'for every input' (looked for: loops, veiled, ifaces, maps, wideKeys, modest, calm, conditions, laid).
  DERIVED. THE GIVEN ROWS OF THIS SEAT. 5 by the template 'for every input the law returns true; each argument reads behind the call as it read before'; 0 by the template 'total and deterministic' (their statements: YthpjbffhdaaibaaTotals.lean).
  GIVEN WITH THE SEED: the statements are not yours to turn. If you find one false, say at which input.
  Laid BY PROGRAM, IN A SANDBOX (cutbox-rows.mjs): the forced cells as the released guide's own fill.sh prints them over the translation 75625d8210aca85e… (all of the seat's roots in one cut). By AI agents, Wed Nov 11 2026. No macro, syntax, notation, axiom, sorry.
-/
import Derived.Test.YthpjbffhdaaibaaChecked
import GoSem.Claim
import GoSem.ClaimJoined
import GoSem.ClaimMapViews
import Derived.JoinedTies
import Derived.KernelRfl
namespace Go.Proofs.Ythpjbffhdaaibaa
/- THE CELL 'sum', in the pinned program and in every row, IS THE sha256 OF THE DUMP (.gsa) THAT YthpjbffhdaaibaaProg.lean LOADS. Nothing in Lean hashes anything: it is a label: what it is worth is what the hold of that sum in a sandbox is worth. -/
noncomputable def Try.pinned : Pinned := { name := "ythpjbffhdaaibaa", sum := "75625d8210aca85e73801e5e89e1aeb5664bcd191f08f9e64519d678f614206d", checked := Try.checked }
namespace Rows
def none {H : Type} : Left H := { results := [], args := [] }

/-- 'vmfleetlaw24.StreamBodies': WHATEVER THE INPUT: true; the input reads as it did. -/
def streamBodiesSpec : ChangeSpec := { name := "streamBodies", fn := fun _ => fun
  | [d1, d2, d3] => { results := [.lit (.bool true)], args := [d1, d2, d3] }
  | _ => none }
def streamBodiesRow : OpenClaim := { program := "ythpjbffhdaaibaa", sum := "75625d8210aca85e73801e5e89e1aeb5664bcd191f08f9e64519d678f614206d", func := "vmfleet/vmfleetlaw24.StreamBodies", spec := "streamBodies", inPlace := ["internal/abi.NoEscape", "slices.overlaps[vmfleet/api.Early]"], unfollowed := true, recurses := true, apart := false }
def StreamBodiesSaid : Prop := streamBodiesRow.holds Try.pinned (OpenSpec.ofChange streamBodiesSpec)

/-- ITS FALSE NEIGHBOUR: 'it returns false'. Refute it at one input. -/
def streamBodiesWrong : ChangeSpec := { name := "streamBodies", fn := fun _ => fun
  | [d1, d2, d3] => { results := [.lit (.bool false)], args := [d1, d2, d3] }
  | _ => none }
def StreamBodiesWrongFalsely : Prop := streamBodiesRow.holds Try.pinned (OpenSpec.ofChange streamBodiesWrong)

/-- 'vmfleetlaw24.StreamOrders': WHATEVER THE INPUT: true; the input reads as it did. -/
def streamOrdersSpec : ChangeSpec := { name := "streamOrders", fn := fun _ => fun
  | [d1, d2, d3] => { results := [.lit (.bool true)], args := [d1, d2, d3] }
  | _ => none }
def streamOrdersRow : OpenClaim := { program := "ythpjbffhdaaibaa", sum := "75625d8210aca85e73801e5e89e1aeb5664bcd191f08f9e64519d678f614206d", func := "vmfleet/vmfleetlaw24.StreamOrders", spec := "streamOrders", inPlace := ["internal/abi.NoEscape", "slices.overlaps[vmfleet/api.Early]"], unfollowed := true, recurses := true, apart := false }
def StreamOrdersSaid : Prop := streamOrdersRow.holds Try.pinned (OpenSpec.ofChange streamOrdersSpec)

/-- ITS FALSE NEIGHBOUR: 'it returns false'. Refute it at one input. -/
def streamOrdersWrong : ChangeSpec := { name := "streamOrders", fn := fun _ => fun
  | [d1, d2, d3] => { results := [.lit (.bool false)], args := [d1, d2, d3] }
  | _ => none }
def StreamOrdersWrongFalsely : Prop := streamOrdersRow.holds Try.pinned (OpenSpec.ofChange streamOrdersWrong)

/-- 'vmfleetlaw24.StreamWindow': WHATEVER THE INPUT: true; the input reads as it did. -/
def streamWindowSpec : ChangeSpec := { name := "streamWindow", fn := fun _ => fun
  | [d1, d2, d3] => { results := [.lit (.bool true)], args := [d1, d2, d3] }
  | _ => none }
def streamWindowRow : OpenClaim := { program := "ythpjbffhdaaibaa", sum := "75625d8210aca85e73801e5e89e1aeb5664bcd191f08f9e64519d678f614206d", func := "vmfleet/vmfleetlaw24.StreamWindow", spec := "streamWindow", inPlace := ["internal/abi.NoEscape", "slices.overlaps[vmfleet/api.Early]"], unfollowed := true, recurses := true, apart := false }
def StreamWindowSaid : Prop := streamWindowRow.holds Try.pinned (OpenSpec.ofChange streamWindowSpec)

/-- ITS FALSE NEIGHBOUR: 'it returns false'. Refute it at one input. -/
def streamWindowWrong : ChangeSpec := { name := "streamWindow", fn := fun _ => fun
  | [d1, d2, d3] => { results := [.lit (.bool false)], args := [d1, d2, d3] }
  | _ => none }
def StreamWindowWrongFalsely : Prop := streamWindowRow.holds Try.pinned (OpenSpec.ofChange streamWindowWrong)

/-- 'vmfleetlaw24.StreamAgain': WHATEVER THE INPUT: true; the input reads as it did. -/
def streamAgainSpec : ChangeSpec := { name := "streamAgain", fn := fun _ => fun
  | [d1, d2, d3] => { results := [.lit (.bool true)], args := [d1, d2, d3] }
  | _ => none }
def streamAgainRow : OpenClaim := { program := "ythpjbffhdaaibaa", sum := "75625d8210aca85e73801e5e89e1aeb5664bcd191f08f9e64519d678f614206d", func := "vmfleet/vmfleetlaw24.StreamAgain", spec := "streamAgain", inPlace := ["internal/abi.NoEscape", "slices.overlaps[vmfleet/api.Early]"], unfollowed := true, recurses := true, apart := false }
def StreamAgainSaid : Prop := streamAgainRow.holds Try.pinned (OpenSpec.ofChange streamAgainSpec)

/-- ITS FALSE NEIGHBOUR: 'it returns false'. Refute it at one input. -/
def streamAgainWrong : ChangeSpec := { name := "streamAgain", fn := fun _ => fun
  | [d1, d2, d3] => { results := [.lit (.bool false)], args := [d1, d2, d3] }
  | _ => none }
def StreamAgainWrongFalsely : Prop := streamAgainRow.holds Try.pinned (OpenSpec.ofChange streamAgainWrong)

/-- 'vmfleetlaw24.StreamDelivers': WHATEVER THE INPUT: true; the input reads as it did. -/
def streamDeliversSpec : ChangeSpec := { name := "streamDelivers", fn := fun _ => fun
  | [d1, d2, d3] => { results := [.lit (.bool true)], args := [d1, d2, d3] }
  | _ => none }
def streamDeliversRow : OpenClaim := { program := "ythpjbffhdaaibaa", sum := "75625d8210aca85e73801e5e89e1aeb5664bcd191f08f9e64519d678f614206d", func := "vmfleet/vmfleetlaw24.StreamDelivers", spec := "streamDelivers", inPlace := ["internal/abi.NoEscape", "slices.overlaps[vmfleet/api.Early]"], unfollowed := true, recurses := true, apart := false }
def StreamDeliversSaid : Prop := streamDeliversRow.holds Try.pinned (OpenSpec.ofChange streamDeliversSpec)

/-- ITS FALSE NEIGHBOUR: 'it returns false'. Refute it at one input. -/
def streamDeliversWrong : ChangeSpec := { name := "streamDelivers", fn := fun _ => fun
  | [d1, d2, d3] => { results := [.lit (.bool false)], args := [d1, d2, d3] }
  | _ => none }
def StreamDeliversWrongFalsely : Prop := streamDeliversRow.holds Try.pinned (OpenSpec.ofChange streamDeliversWrong)

/- THE SECOND FORM. 'bulk': how many values and letters a reading holds, each counted each time it is reached (what is shared counts as often as it is met; a slice's spare places count too). A statement '..UptoSaid' is the law's where the arguments, and the package variables that the reading takes, are together of bulk at most 1048576: NARROWER than '..Said'. Prove '..Said' where nothing that the law and all that it calls make is longer than what came in: it says more and counts as full. Else prove '..UptoSaid'. A law counts once. -/
mutual
def uptoBulk {H : Type} : DataW H → Nat
  | .lit (.string bytes) => bytes.length + 1
  | .lit _ => 1
  | .nil => 1
  | .ptr d => uptoBulk d + 1
  | .slice elems spare => uptoBulkAll elems + uptoBulkAll spare + 1
  | .agg parts => uptoBulkAll parts + 1
  | .iface _ d => uptoBulk d + 1
  | .map entries => uptoBulkEntries entries + 1
  | .held _ => 1
def uptoBulkAll {H : Type} : List (DataW H) → Nat
  | [] => 0
  | d :: r => uptoBulk d + uptoBulkAll r
def uptoBulkEntries {H : Type} : List (Lit × DataW H) → Nat
  | [] => 0
  | x :: r => uptoBulkEntry x + uptoBulkEntries r
def uptoBulkEntry {H : Type} : Lit × DataW H → Nat
  | (.string bytes, d) => bytes.length + uptoBulk d + 1
  | (_, d) => uptoBulk d + 1
 end
def uptoSmall : (H : Type) → List (DataW H) → Bool := fun _ ds => decide (uptoBulkAll ds ≤ 1048576)
def OpenSpec.upto (s : _root_.Go.ChangeSpec) : _root_.Go.OpenSpec := { _root_.Go.OpenSpec.ofChange s with cond := some uptoSmall }

/-- 'vmfleetlaw24.StreamBodies', WHERE WHAT IT READS IS OF BULK AT MOST 1048576: true; the input reads as it did. -/
def streamBodiesUptoRow : OpenClaim := { program := "ythpjbffhdaaibaa", sum := "75625d8210aca85e73801e5e89e1aeb5664bcd191f08f9e64519d678f614206d", func := "vmfleet/vmfleetlaw24.StreamBodies", spec := "streamBodies", inPlace := ["internal/abi.NoEscape", "slices.overlaps[vmfleet/api.Early]"], unfollowed := true, recurses := true, apart := false, narrowed := true }
def StreamBodiesUptoSaid : Prop := streamBodiesUptoRow.holds Try.pinned (OpenSpec.upto streamBodiesSpec)

/-- 'vmfleetlaw24.StreamOrders', WHERE WHAT IT READS IS OF BULK AT MOST 1048576: true; the input reads as it did. -/
def streamOrdersUptoRow : OpenClaim := { program := "ythpjbffhdaaibaa", sum := "75625d8210aca85e73801e5e89e1aeb5664bcd191f08f9e64519d678f614206d", func := "vmfleet/vmfleetlaw24.StreamOrders", spec := "streamOrders", inPlace := ["internal/abi.NoEscape", "slices.overlaps[vmfleet/api.Early]"], unfollowed := true, recurses := true, apart := false, narrowed := true }
def StreamOrdersUptoSaid : Prop := streamOrdersUptoRow.holds Try.pinned (OpenSpec.upto streamOrdersSpec)

/-- 'vmfleetlaw24.StreamWindow', WHERE WHAT IT READS IS OF BULK AT MOST 1048576: true; the input reads as it did. -/
def streamWindowUptoRow : OpenClaim := { program := "ythpjbffhdaaibaa", sum := "75625d8210aca85e73801e5e89e1aeb5664bcd191f08f9e64519d678f614206d", func := "vmfleet/vmfleetlaw24.StreamWindow", spec := "streamWindow", inPlace := ["internal/abi.NoEscape", "slices.overlaps[vmfleet/api.Early]"], unfollowed := true, recurses := true, apart := false, narrowed := true }
def StreamWindowUptoSaid : Prop := streamWindowUptoRow.holds Try.pinned (OpenSpec.upto streamWindowSpec)

/-- 'vmfleetlaw24.StreamAgain', WHERE WHAT IT READS IS OF BULK AT MOST 1048576: true; the input reads as it did. -/
def streamAgainUptoRow : OpenClaim := { program := "ythpjbffhdaaibaa", sum := "75625d8210aca85e73801e5e89e1aeb5664bcd191f08f9e64519d678f614206d", func := "vmfleet/vmfleetlaw24.StreamAgain", spec := "streamAgain", inPlace := ["internal/abi.NoEscape", "slices.overlaps[vmfleet/api.Early]"], unfollowed := true, recurses := true, apart := false, narrowed := true }
def StreamAgainUptoSaid : Prop := streamAgainUptoRow.holds Try.pinned (OpenSpec.upto streamAgainSpec)

/-- 'vmfleetlaw24.StreamDelivers', WHERE WHAT IT READS IS OF BULK AT MOST 1048576: true; the input reads as it did. -/
def streamDeliversUptoRow : OpenClaim := { program := "ythpjbffhdaaibaa", sum := "75625d8210aca85e73801e5e89e1aeb5664bcd191f08f9e64519d678f614206d", func := "vmfleet/vmfleetlaw24.StreamDelivers", spec := "streamDelivers", inPlace := ["internal/abi.NoEscape", "slices.overlaps[vmfleet/api.Early]"], unfollowed := true, recurses := true, apart := false, narrowed := true }
def StreamDeliversUptoSaid : Prop := streamDeliversUptoRow.holds Try.pinned (OpenSpec.upto streamDeliversSpec)

end Rows
end Go.Proofs.Ythpjbffhdaaibaa
