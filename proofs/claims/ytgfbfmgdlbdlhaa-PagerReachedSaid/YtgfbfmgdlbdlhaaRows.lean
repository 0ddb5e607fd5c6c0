/-
  No cell of these rows narrows 'for every input' (looked for: loops, veiled, ifaces, maps, wideKeys, modest, calm, conditions, laid).
  DERIVED. THE GIVEN ROWS OF THIS SEAT. 6 by the template 'for every input the law returns true; each argument reads behind the call as it read before'; 0 by the template 'total and deterministic' (their statements: YtgfbfmgdlbdlhaaTotals.lean).
  GIVEN WITH THE SEED: the statements are not yours to turn. If you find one false, say at which input.
  Laid BY PROGRAM, IN A SANDBOX (cutbox-rows.mjs): the forced cells as the released guide's own fill.sh prints them over the translation a1dbb6793967be3f… (all of the seat's roots in one cut). By AI agents, Wed Nov 11 2026. No macro, syntax, notation, axiom, sorry.
-/
import Derived.Test.YtgfbfmgdlbdlhaaChecked
import GoSem.Claim
import GoSem.ClaimJoined
import GoSem.ClaimMapViews
import Derived.JoinedTies
import Derived.KernelRfl
namespace Go.Proofs.Ytgfbfmgdlbdlhaa
/- THE CELL 'sum', in the pinned program and in every row, IS THE sha256 OF THE DUMP (.gsa) THAT YtgfbfmgdlbdlhaaProg.lean LOADS. Nothing in Lean hashes anything: it is a label: what it is worth is what the hold of that sum in a sandbox is worth. -/
noncomputable def Try.pinned : Pinned := { name := "ytgfbfmgdlbdlhaa", sum := "a1dbb6793967be3f5a1eda0f60b9af3817f2b28da0b8721ebbbb597a3ae022a2", checked := Try.checked }
namespace Rows
def none {H : Type} : Left H := { results := [], args := [] }

/-- 'vmfleetlaw36.PagerVictim': WHATEVER THE INPUT: true; the input reads as it did. -/
def pagerVictimSpec : ChangeSpec := { name := "pagerVictim", fn := fun _ => fun
  | [d1, d2, d3, d4] => { results := [.lit (.bool true)], args := [d1, d2, d3, d4] }
  | _ => none }
def pagerVictimRow : OpenClaim := { program := "ytgfbfmgdlbdlhaa", sum := "a1dbb6793967be3f5a1eda0f60b9af3817f2b28da0b8721ebbbb597a3ae022a2", func := "vmfleet/vmfleetlaw36.PagerVictim", spec := "pagerVictim", apart := false }
def PagerVictimSaid : Prop := pagerVictimRow.holds Try.pinned (OpenSpec.ofChange pagerVictimSpec)

/-- ITS FALSE NEIGHBOUR: 'it returns false'. Refute it at one input. -/
def pagerVictimWrong : ChangeSpec := { name := "pagerVictim", fn := fun _ => fun
  | [d1, d2, d3, d4] => { results := [.lit (.bool false)], args := [d1, d2, d3, d4] }
  | _ => none }
def PagerVictimWrongFalsely : Prop := pagerVictimRow.holds Try.pinned (OpenSpec.ofChange pagerVictimWrong)

/-- 'vmfleetlaw36.PagerChance': WHATEVER THE INPUT: true; the input reads as it did. -/
def pagerChanceSpec : ChangeSpec := { name := "pagerChance", fn := fun _ => fun
  | [d1, d2, d3] => { results := [.lit (.bool true)], args := [d1, d2, d3] }
  | _ => none }
def pagerChanceRow : OpenClaim := { program := "ytgfbfmgdlbdlhaa", sum := "a1dbb6793967be3f5a1eda0f60b9af3817f2b28da0b8721ebbbb597a3ae022a2", func := "vmfleet/vmfleetlaw36.PagerChance", spec := "pagerChance", apart := false }
def PagerChanceSaid : Prop := pagerChanceRow.holds Try.pinned (OpenSpec.ofChange pagerChanceSpec)

/-- ITS FALSE NEIGHBOUR: 'it returns false'. Refute it at one input. -/
def pagerChanceWrong : ChangeSpec := { name := "pagerChance", fn := fun _ => fun
  | [d1, d2, d3] => { results := [.lit (.bool false)], args := [d1, d2, d3] }
  | _ => none }
def PagerChanceWrongFalsely : Prop := pagerChanceRow.holds Try.pinned (OpenSpec.ofChange pagerChanceWrong)

/-- 'vmfleetlaw36.PagerForms': WHATEVER THE INPUT: true; the input reads as it did. -/
def pagerFormsSpec : ChangeSpec := { name := "pagerForms", fn := fun _ => fun
  | [d1, d2] => { results := [.lit (.bool true)], args := [d1, d2] }
  | _ => none }
def pagerFormsRow : OpenClaim := { program := "ytgfbfmgdlbdlhaa", sum := "a1dbb6793967be3f5a1eda0f60b9af3817f2b28da0b8721ebbbb597a3ae022a2", func := "vmfleet/vmfleetlaw36.PagerForms", spec := "pagerForms", apart := false }
def PagerFormsSaid : Prop := pagerFormsRow.holds Try.pinned (OpenSpec.ofChange pagerFormsSpec)

/-- ITS FALSE NEIGHBOUR: 'it returns false'. Refute it at one input. -/
def pagerFormsWrong : ChangeSpec := { name := "pagerForms", fn := fun _ => fun
  | [d1, d2] => { results := [.lit (.bool false)], args := [d1, d2] }
  | _ => none }
def PagerFormsWrongFalsely : Prop := pagerFormsRow.holds Try.pinned (OpenSpec.ofChange pagerFormsWrong)

/-- 'vmfleetlaw36.PagerTells': WHATEVER THE INPUT: true; the input reads as it did. -/
def pagerTellsSpec : ChangeSpec := { name := "pagerTells", fn := fun _ => fun
  | [d1, d2, d3, d4, d5] => { results := [.lit (.bool true)], args := [d1, d2, d3, d4, d5] }
  | _ => none }
def pagerTellsRow : OpenClaim := { program := "ytgfbfmgdlbdlhaa", sum := "a1dbb6793967be3f5a1eda0f60b9af3817f2b28da0b8721ebbbb597a3ae022a2", func := "vmfleet/vmfleetlaw36.PagerTells", spec := "pagerTells", apart := false }
def PagerTellsSaid : Prop := pagerTellsRow.holds Try.pinned (OpenSpec.ofChange pagerTellsSpec)

/-- ITS FALSE NEIGHBOUR: 'it returns false'. Refute it at one input. -/
def pagerTellsWrong : ChangeSpec := { name := "pagerTells", fn := fun _ => fun
  | [d1, d2, d3, d4, d5] => { results := [.lit (.bool false)], args := [d1, d2, d3, d4, d5] }
  | _ => none }
def PagerTellsWrongFalsely : Prop := pagerTellsRow.holds Try.pinned (OpenSpec.ofChange pagerTellsWrong)

/-- 'vmfleetlaw36.PagerReached': WHATEVER THE INPUT: true; the input reads as it did. -/
def pagerReachedSpec : ChangeSpec := { name := "pagerReached", fn := fun _ => fun
  | [d1, d2, d3, d4, d5] => { results := [.lit (.bool true)], args := [d1, d2, d3, d4, d5] }
  | _ => none }
def pagerReachedRow : OpenClaim := { program := "ytgfbfmgdlbdlhaa", sum := "a1dbb6793967be3f5a1eda0f60b9af3817f2b28da0b8721ebbbb597a3ae022a2", func := "vmfleet/vmfleetlaw36.PagerReached", spec := "pagerReached", apart := false }
def PagerReachedSaid : Prop := pagerReachedRow.holds Try.pinned (OpenSpec.ofChange pagerReachedSpec)

/-- ITS FALSE NEIGHBOUR: 'it returns false'. Refute it at one input. -/
def pagerReachedWrong : ChangeSpec := { name := "pagerReached", fn := fun _ => fun
  | [d1, d2, d3, d4, d5] => { results := [.lit (.bool false)], args := [d1, d2, d3, d4, d5] }
  | _ => none }
def PagerReachedWrongFalsely : Prop := pagerReachedRow.holds Try.pinned (OpenSpec.ofChange pagerReachedWrong)

/-- 'vmfleetlaw36.PagerKeeps': WHATEVER THE INPUT: true; the input reads as it did. -/
def pagerKeepsSpec : ChangeSpec := { name := "pagerKeeps", fn := fun _ => fun
  | [d1, d2, d3] => { results := [.lit (.bool true)], args := [d1, d2, d3] }
  | _ => none }
def pagerKeepsRow : OpenClaim := { program := "ytgfbfmgdlbdlhaa", sum := "a1dbb6793967be3f5a1eda0f60b9af3817f2b28da0b8721ebbbb597a3ae022a2", func := "vmfleet/vmfleetlaw36.PagerKeeps", spec := "pagerKeeps", apart := false }
def PagerKeepsSaid : Prop := pagerKeepsRow.holds Try.pinned (OpenSpec.ofChange pagerKeepsSpec)

/-- ITS FALSE NEIGHBOUR: 'it returns false'. Refute it at one input. -/
def pagerKeepsWrong : ChangeSpec := { name := "pagerKeeps", fn := fun _ => fun
  | [d1, d2, d3] => { results := [.lit (.bool false)], args := [d1, d2, d3] }
  | _ => none }
def PagerKeepsWrongFalsely : Prop := pagerKeepsRow.holds Try.pinned (OpenSpec.ofChange pagerKeepsWrong)

/- THE SECOND FORM. 'bulk': how many values and letters a reading holds, each counted each time it is reached (what is shared counts as often as it is met; a slice's spare places count too). A statement '..UptoSaid' is the law's where the arguments, and the package variables that the reading takes, are together of bulk at most 1048576: NARROWER than '..Said'. Prove '..Said' where nothing that the law and all that it calls make is longer than what came in: it says more and counts as full. Else prove '..UptoSaid'. A law counts once. -/
mutual
def uptoBulk {H : Type} : DataW H → Nat
  | .lit (.string bytes) => bytes.length + 1
  | .lit _ => 1
  | .nil => 1
  | .ptr d => uptoBulk d + 1
  | .slice elems spare => uptoBulkAll elems + uptoBulkAll spare + 1
  | .agg parts => uptoBulkAll parts + 1
  | .iface _ d => uptoBulk d + 1
  | .map entries => uptoBulkEntries entries + 1
  | .held _ => 1
def uptoBulkAll {H : Type} : List (DataW H) → Nat
  | [] => 0
  | d :: r => uptoBulk d + uptoBulkAll r
def uptoBulkEntries {H : Type} : List (Lit × DataW H) → Nat
  | [] => 0
  | x :: r => uptoBulkEntry x + uptoBulkEntries r
def uptoBulkEntry {H : Type} : Lit × DataW H → Nat
  | (.string bytes, d) => bytes.length + uptoBulk d + 1
  | (_, d) => uptoBulk d + 1
 end
def uptoSmall : (H : Type) → List (DataW H) → Bool := fun _ ds => decide (uptoBulkAll ds ≤ 1048576)
def OpenSpec.upto (s : _root_.Go.ChangeSpec) : _root_.Go.OpenSpec := { _root_.Go.OpenSpec.ofChange s with cond := some uptoSmall }

/-- 'vmfleetlaw36.PagerVictim', WHERE WHAT IT READS IS OF BULK AT MOST 1048576: true; the input reads as it did. -/
def pagerVictimUptoRow : OpenClaim := { program := "ytgfbfmgdlbdlhaa", sum := "a1dbb6793967be3f5a1eda0f60b9af3817f2b28da0b8721ebbbb597a3ae022a2", func := "vmfleet/vmfleetlaw36.PagerVictim", spec := "pagerVictim", apart := false, narrowed := true }
def PagerVictimUptoSaid : Prop := pagerVictimUptoRow.holds Try.pinned (OpenSpec.upto pagerVictimSpec)

/-- 'vmfleetlaw36.PagerChance', WHERE WHAT IT READS IS OF BULK AT MOST 1048576: true; the input reads as it did. -/
def pagerChanceUptoRow : OpenClaim := { program := "ytgfbfmgdlbdlhaa", sum := "a1dbb6793967be3f5a1eda0f60b9af3817f2b28da0b8721ebbbb597a3ae022a2", func := "vmfleet/vmfleetlaw36.PagerChance", spec := "pagerChance", apart := false, narrowed := true }
def PagerChanceUptoSaid : Prop := pagerChanceUptoRow.holds Try.pinned (OpenSpec.upto pagerChanceSpec)

/-- 'vmfleetlaw36.PagerForms', WHERE WHAT IT READS IS OF BULK AT MOST 1048576: true; the input reads as it did. -/
def pagerFormsUptoRow : OpenClaim := { program := "ytgfbfmgdlbdlhaa", sum := "a1dbb6793967be3f5a1eda0f60b9af3817f2b28da0b8721ebbbb597a3ae022a2", func := "vmfleet/vmfleetlaw36.PagerForms", spec := "pagerForms", apart := false, narrowed := true }
def PagerFormsUptoSaid : Prop := pagerFormsUptoRow.holds Try.pinned (OpenSpec.upto pagerFormsSpec)

/-- 'vmfleetlaw36.PagerTells', WHERE WHAT IT READS IS OF BULK AT MOST 1048576: true; the input reads as it did. -/
def pagerTellsUptoRow : OpenClaim := { program := "ytgfbfmgdlbdlhaa", sum := "a1dbb6793967be3f5a1eda0f60b9af3817f2b28da0b8721ebbbb597a3ae022a2", func := "vmfleet/vmfleetlaw36.PagerTells", spec := "pagerTells", apart := false, narrowed := true }
def PagerTellsUptoSaid : Prop := pagerTellsUptoRow.holds Try.pinned (OpenSpec.upto pagerTellsSpec)

/-- 'vmfleetlaw36.PagerReached', WHERE WHAT IT READS IS OF BULK AT MOST 1048576: true; the input reads as it did. -/
def pagerReachedUptoRow : OpenClaim := { program := "ytgfbfmgdlbdlhaa", sum := "a1dbb6793967be3f5a1eda0f60b9af3817f2b28da0b8721ebbbb597a3ae022a2", func := "vmfleet/vmfleetlaw36.PagerReached", spec := "pagerReached", apart := false, narrowed := true }
def PagerReachedUptoSaid : Prop := pagerReachedUptoRow.holds Try.pinned (OpenSpec.upto pagerReachedSpec)

/-- 'vmfleetlaw36.PagerKeeps', WHERE WHAT IT READS IS OF BULK AT MOST 1048576: true; the input reads as it did. -/
def pagerKeepsUptoRow : OpenClaim := { program := "ytgfbfmgdlbdlhaa", sum := "a1dbb6793967be3f5a1eda0f60b9af3817f2b28da0b8721ebbbb597a3ae022a2", func := "vmfleet/vmfleetlaw36.PagerKeeps", spec := "pagerKeeps", apart := false, narrowed := true }
def PagerKeepsUptoSaid : Prop := pagerKeepsUptoRow.holds Try.pinned (OpenSpec.upto pagerKeepsSpec)

end Rows
end Go.Proofs.Ytgfbfmgdlbdlhaa
