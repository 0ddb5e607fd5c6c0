/-
  Plain laws, no program in sight: placements (chapter 39).
-/
import Derived.Test.YtmpbmckigejagaaAdP
namespace Go.Proofs.Ytmpbmckigejagaa.Ad
set_option linter.unusedVariables false
/-- A placed guest: its name, its demand, the hosts of its two sides. -/
structure Pl where
  nm : ByteArray
  d : Dem
  a : Int
  b : Int
def onOne (p : Pl) (h : Int) : List Dem := (if p.a = h then [p.d] else []) ++ (if p.b = h then [p.d] else [])
/-- The demands with a side on a host. -/
def on (L : List Pl) (h : Int) : List Dem := L.flatMap fun p => onOne p h
theorem on_snoc (L : List Pl) (k : Nat) (p : Pl) (h : Int) (hp : L[k]? = some p) : on (L.take (k + 1)) h = on (L.take k) h ++ onOne p h := by
  obtain ⟨hk, rfl⟩ := List.getElem?_eq_some_iff.1 hp
  unfold on
  rw [List.take_succ_eq_append_getElem hk, List.flatMap_append, List.flatMap_singleton]
theorem onOne_len (p : Pl) (h : Int) : (onOne p h).length ≤ 2 := by unfold onOne; split <;> split <;> simp
theorem on_len (L : List Pl) (h : Int) : (on L h).length ≤ 2 * L.length := by
  unfold on
  induction L with
  | nil => simp
  | cons p L ih =>
    rw [List.flatMap_cons, List.length_append, List.length_cons]
    have := onOne_len p h
    omega
/-- Does a host exist. -/
def there (n : Int) (h : Int) : Bool := decide (0 ≤ h) && decide (h < n)
end Go.Proofs.Ytmpbmckigejagaa.Ad
