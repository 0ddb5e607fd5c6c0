/-
  A name of a valid tree is found at its own node (chapter 41). Plain.
-/
import Derived.Test.YtncgihbnfmpdbaaSnF
set_option linter.unusedVariables false
set_option linter.unusedSimpArgs false
namespace Go.Proofs.Ytncgihbnfmpdbaa
open Go.RowKit
namespace Sn
theorem findR_at {T : Tr} (h : Ok T) {i : Nat} {x : Nd} (hx : T.nodes[i]? = some x) (hl : ¬ x.nm.size = 0) : findR T.nodes x.nm = ((i : Int), true) := by
  have hi : i < T.nodes.length := (List.getElem?_eq_some_iff.1 hx).1
  have h0 : findTo T.nodes x.nm i = none := (findTo_none i).2 fun j y hj hy => (h.node i x hx).once hl j y hj hy
  have h1 : findTo T.nodes x.nm (i + 1) = some i := by rw [findTo_next hx h0, if_pos rfl]
  have h2 : find T.nodes x.nm = some i := findTo_stay h1 T.nodes.length (by omega)
  unfold findR
  rw [h2]
end Sn
end Go.Proofs.Ytncgihbnfmpdbaa
