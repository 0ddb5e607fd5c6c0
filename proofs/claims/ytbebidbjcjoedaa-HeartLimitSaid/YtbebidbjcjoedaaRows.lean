/-
  No cell of these rows narrows 'for every input' (looked for: loops, veiled, ifaces, maps, wideKeys, modest, calm, conditions, laid).
  DERIVED. THE GIVEN ROWS OF THIS SEAT. 4 by the template 'for every input the law returns true; each argument reads behind the call as it read before'; 0 by the template 'total and deterministic' (their statements: YtbebidbjcjoedaaTotals.lean).
  GIVEN WITH THE SEED: the statements are not yours to turn. If you find one false, say at which input.
  Laid BY PROGRAM, IN A SANDBOX (cutbox-rows.mjs): the forced cells as the released guide's own fill.sh prints them over the translation 7d6bb8fc101fe865… (all of the seat's roots in one cut). By AI agents, Wed Nov 11 2026. No macro, syntax, notation, axiom, sorry.
-/
import Derived.Test.YtbebidbjcjoedaaChecked
import GoSem.Claim
import GoSem.ClaimJoined
import GoSem.ClaimMapViews
import Derived.JoinedTies
import Derived.KernelRfl
namespace Go.Proofs.Ytbebidbjcjoedaa
/- THE CELL 'sum', in the pinned program and in every row, IS THE sha256 OF THE DUMP (.gsa) THAT YtbebidbjcjoedaaProg.lean LOADS. Nothing in Lean hashes anything: it is a label: what it is worth is what the hold of that sum in a sandbox is worth. -/
noncomputable def Try.pinned : Pinned := { name := "ytbebidbjcjoedaa", sum := "7d6bb8fc101fe865031673a77210d11bf916993e189538b04bf2d4f68b591700", checked := Try.checked }
namespace Rows
def none {H : Type} : Left H := { results := [], args := [] }

/-- 'vmfleetlaw27.HeartTells': WHATEVER THE INPUT: true; the input reads as it did. -/
def heartTellsSpec : ChangeSpec := { name := "heartTells", fn := fun _ => fun
  | [d1, d2, d3, d4, d5] => { results := [.lit (.bool true)], args := [d1, d2, d3, d4, d5] }
  | _ => none }
def heartTellsRow : OpenClaim := { program := "ytbebidbjcjoedaa", sum := "7d6bb8fc101fe865031673a77210d11bf916993e189538b04bf2d4f68b591700", func := "vmfleet/vmfleetlaw27.HeartTells", spec := "heartTells", apart := false }
def HeartTellsSaid : Prop := heartTellsRow.holds Try.pinned (OpenSpec.ofChange heartTellsSpec)

/-- ITS FALSE NEIGHBOUR: 'it returns false'. Refute it at one input. -/
def heartTellsWrong : ChangeSpec := { name := "heartTells", fn := fun _ => fun
  | [d1, d2, d3, d4, d5] => { results := [.lit (.bool false)], args := [d1, d2, d3, d4, d5] }
  | _ => none }
def HeartTellsWrongFalsely : Prop := heartTellsRow.holds Try.pinned (OpenSpec.ofChange heartTellsWrong)

/-- 'vmfleetlaw27.HeartLimit': WHATEVER THE INPUT: true; the input reads as it did. -/
def heartLimitSpec : ChangeSpec := { name := "heartLimit", fn := fun _ => fun
  | [d1, d2, d3, d4] => { results := [.lit (.bool true)], args := [d1, d2, d3, d4] }
  | _ => none }
def heartLimitRow : OpenClaim := { program := "ytbebidbjcjoedaa", sum := "7d6bb8fc101fe865031673a77210d11bf916993e189538b04bf2d4f68b591700", func := "vmfleet/vmfleetlaw27.HeartLimit", spec := "heartLimit", apart := false }
def HeartLimitSaid : Prop := heartLimitRow.holds Try.pinned (OpenSpec.ofChange heartLimitSpec)

/-- ITS FALSE NEIGHBOUR: 'it returns false'. Refute it at one input. -/
def heartLimitWrong : ChangeSpec := { name := "heartLimit", fn := fun _ => fun
  | [d1, d2, d3, d4] => { results := [.lit (.bool false)], args := [d1, d2, d3, d4] }
  | _ => none }
def HeartLimitWrongFalsely : Prop := heartLimitRow.holds Try.pinned (OpenSpec.ofChange heartLimitWrong)

/-- 'vmfleetlaw27.HeartAlive': WHATEVER THE INPUT: true; the input reads as it did. -/
def heartAliveSpec : ChangeSpec := { name := "heartAlive", fn := fun _ => fun
  | [d1, d2] => { results := [.lit (.bool true)], args := [d1, d2] }
  | _ => none }
def heartAliveRow : OpenClaim := { program := "ytbebidbjcjoedaa", sum := "7d6bb8fc101fe865031673a77210d11bf916993e189538b04bf2d4f68b591700", func := "vmfleet/vmfleetlaw27.HeartAlive", spec := "heartAlive", apart := false }
def HeartAliveSaid : Prop := heartAliveRow.holds Try.pinned (OpenSpec.ofChange heartAliveSpec)

/-- ITS FALSE NEIGHBOUR: 'it returns false'. Refute it at one input. -/
def heartAliveWrong : ChangeSpec := { name := "heartAlive", fn := fun _ => fun
  | [d1, d2] => { results := [.lit (.bool false)], args := [d1, d2] }
  | _ => none }
def HeartAliveWrongFalsely : Prop := heartAliveRow.holds Try.pinned (OpenSpec.ofChange heartAliveWrong)

/-- 'vmfleetlaw27.HeartPackets': WHATEVER THE INPUT: true; the input reads as it did. -/
def heartPacketsSpec : ChangeSpec := { name := "heartPackets", fn := fun _ => fun
  | [d1, d2, d3] => { results := [.lit (.bool true)], args := [d1, d2, d3] }
  | _ => none }
def heartPacketsRow : OpenClaim := { program := "ytbebidbjcjoedaa", sum := "7d6bb8fc101fe865031673a77210d11bf916993e189538b04bf2d4f68b591700", func := "vmfleet/vmfleetlaw27.HeartPackets", spec := "heartPackets", apart := false }
def HeartPacketsSaid : Prop := heartPacketsRow.holds Try.pinned (OpenSpec.ofChange heartPacketsSpec)

/-- ITS FALSE NEIGHBOUR: 'it returns false'. Refute it at one input. -/
def heartPacketsWrong : ChangeSpec := { name := "heartPackets", fn := fun _ => fun
  | [d1, d2, d3] => { results := [.lit (.bool false)], args := [d1, d2, d3] }
  | _ => none }
def HeartPacketsWrongFalsely : Prop := heartPacketsRow.holds Try.pinned (OpenSpec.ofChange heartPacketsWrong)

/- THE SECOND FORM. 'bulk': how many values and letters a reading holds, each counted each time it is reached (what is shared counts as often as it is met; a slice's spare places count too). A statement '..UptoSaid' is the law's where the arguments, and the package variables that the reading takes, are together of bulk at most 1048576: NARROWER than '..Said'. Prove '..Said' where nothing that the law and all that it calls make is longer than what came in: it says more and counts as full. Else prove '..UptoSaid'. A law counts once. -/
mutual
def uptoBulk {H : Type} : DataW H → Nat
  | .lit (.string bytes) => bytes.length + 1
  | .lit _ => 1
  | .nil => 1
  | .ptr d => uptoBulk d + 1
  | .slice elems spare => uptoBulkAll elems + uptoBulkAll spare + 1
  | .agg parts => uptoBulkAll parts + 1
  | .iface _ d => uptoBulk d + 1
  | .map entries => uptoBulkEntries entries + 1
  | .held _ => 1
def uptoBulkAll {H : Type} : List (DataW H) → Nat
  | [] => 0
  | d :: r => uptoBulk d + uptoBulkAll r
def uptoBulkEntries {H : Type} : List (Lit × DataW H) → Nat
  | [] => 0
  | x :: r => uptoBulkEntry x + uptoBulkEntries r
def uptoBulkEntry {H : Type} : Lit × DataW H → Nat
  | (.string bytes, d) => bytes.length + uptoBulk d + 1
  | (_, d) => uptoBulk d + 1
 end
def uptoSmall : (H : Type) → List (DataW H) → Bool := fun _ ds => decide (uptoBulkAll ds ≤ 1048576)
def OpenSpec.upto (s : _root_.Go.ChangeSpec) : _root_.Go.OpenSpec := { _root_.Go.OpenSpec.ofChange s with cond := some uptoSmall }

/-- 'vmfleetlaw27.HeartTells', WHERE WHAT IT READS IS OF BULK AT MOST 1048576: true; the input reads as it did. -/
def heartTellsUptoRow : OpenClaim := { program := "ytbebidbjcjoedaa", sum := "7d6bb8fc101fe865031673a77210d11bf916993e189538b04bf2d4f68b591700", func := "vmfleet/vmfleetlaw27.HeartTells", spec := "heartTells", apart := false, narrowed := true }
def HeartTellsUptoSaid : Prop := heartTellsUptoRow.holds Try.pinned (OpenSpec.upto heartTellsSpec)

/-- 'vmfleetlaw27.HeartLimit', WHERE WHAT IT READS IS OF BULK AT MOST 1048576: true; the input reads as it did. -/
def heartLimitUptoRow : OpenClaim := { program := "ytbebidbjcjoedaa", sum := "7d6bb8fc101fe865031673a77210d11bf916993e189538b04bf2d4f68b591700", func := "vmfleet/vmfleetlaw27.HeartLimit", spec := "heartLimit", apart := false, narrowed := true }
def HeartLimitUptoSaid : Prop := heartLimitUptoRow.holds Try.pinned (OpenSpec.upto heartLimitSpec)

/-- 'vmfleetlaw27.HeartAlive', WHERE WHAT IT READS IS OF BULK AT MOST 1048576: true; the input reads as it did. -/
def heartAliveUptoRow : OpenClaim := { program := "ytbebidbjcjoedaa", sum := "7d6bb8fc101fe865031673a77210d11bf916993e189538b04bf2d4f68b591700", func := "vmfleet/vmfleetlaw27.HeartAlive", spec := "heartAlive", apart := false, narrowed := true }
def HeartAliveUptoSaid : Prop := heartAliveUptoRow.holds Try.pinned (OpenSpec.upto heartAliveSpec)

/-- 'vmfleetlaw27.HeartPackets', WHERE WHAT IT READS IS OF BULK AT MOST 1048576: true; the input reads as it did. -/
def heartPacketsUptoRow : OpenClaim := { program := "ytbebidbjcjoedaa", sum := "7d6bb8fc101fe865031673a77210d11bf916993e189538b04bf2d4f68b591700", func := "vmfleet/vmfleetlaw27.HeartPackets", spec := "heartPackets", apart := false, narrowed := true }
def HeartPacketsUptoSaid : Prop := heartPacketsUptoRow.holds Try.pinned (OpenSpec.upto heartPacketsSpec)

end Rows
end Go.Proofs.Ytbebidbjcjoedaa
