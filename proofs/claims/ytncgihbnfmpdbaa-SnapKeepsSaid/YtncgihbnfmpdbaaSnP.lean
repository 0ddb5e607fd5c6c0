/-
  Plain laws, no program in sight: snapshot trees (chapter 41).
-/
import Derived.RowKit
set_option linter.unusedVariables false
set_option linter.unusedSimpArgs false
namespace Go.Proofs.Ytncgihbnfmpdbaa.Sn
/-- A delta: block, content. -/
structure Dl where
  b : Int
  s : ByteArray
/-- A node: name, parent, open, deltas. -/
structure Nd where
  nm : ByteArray
  par : Int
  op : Bool
  ds : List Dl
structure Tr where
  base : List ByteArray
  nodes : List Nd
def dlC (d : Dl) : List Value := [.int .i64 d.b, .string d.s]
theorem dlC_len (x : Dl) : (dlC x).length = 2 := rfl
theorem dlC_one (x : Dl) : ∀ u ∈ dlC x, u.oneCell' = true := by intro u hu; simp [dlC] at hu; rcases hu with rfl | rfl <;> rfl
/-- A node as it lies in memory: its deltas are a slice. -/
structure Nr where
  nm : ByteArray
  par : Int
  op : Bool
  A : Option Addr
  n : Nat
  cap : Nat
def nrC (x : Nr) : List Value := [.string x.nm, .int .i64 x.par, .bool x.op, .slice x.A x.n x.cap]
theorem nrC_len (x : Nr) : (nrC x).length = 4 := rfl
theorem nrC_one (x : Nr) : ∀ u ∈ nrC x, u.oneCell' = true := by intro u hu; simp [nrC] at hu; rcases hu with rfl | rfl | rfl | rfl <;> rfl
def live (x : Nd) : Bool := decide (¬ x.nm.size = 0)
def ex (N : List Nd) (n : Int) : Bool := decide (0 ≤ n) && (match N[n.toNat]? with | some x => live x | none => false)
def isKid (n : Int) (x : Nd) : Bool := live x && decide (x.par = n)
def kidsTo (N : List Nd) (n : Int) : Nat → List Int
  | 0 => []
  | k + 1 => kidsTo N n k ++ (match N[k]? with | some x => if isKid n x then [(k : Int)] else [] | none => [])
def kids (N : List Nd) (n : Int) : List Int := kidsTo N n N.length
def findTo (N : List Nd) (nm : ByteArray) : Nat → Option Nat
  | 0 => none
  | k + 1 => match findTo N nm k with
    | some i => some i
    | none => match N[k]? with | some x => if x.nm = nm then some k else none | none => none
def find (N : List Nd) (nm : ByteArray) : Option Nat := findTo N nm N.length
/-- What the deltas say of a block. -/
def look (ds : List Dl) (b : Int) : Option ByteArray := (ds.find? fun d => decide (d.b = b)).map Dl.s
def base (T : Tr) (b : Int) : ByteArray := T.base.getD b.toNat ⟨#[]⟩
/-- What a node sees; the fuel is one more than its number. -/
def see (T : Tr) : Nat → Int → Int → ByteArray
  | 0, _, b => base T b
  | f + 1, n, b => if n < 0 then base T b else match T.nodes[n.toNat]? with
    | some x => (match look x.ds b with | some s => s | none => see T f x.par b)
    | none => base T b
def sees (T : Tr) (n b : Int) : ByteArray := see T (n + 1).toNat n b
/-- Sorted, on the disk, whole blocks. -/
structure DsOk (ds : List Dl) (n : Nat) : Prop where
  sorted : ds.Pairwise fun x y => x.b < y.b
  all : ∀ d ∈ ds, 0 ≤ d.b ∧ d.b < n ∧ d.s.size = 128
structure NdOk (T : Tr) (i : Nat) (x : Nd) : Prop where
  dead : x.nm.size = 0 → x.par = -1 ∧ x.op = false ∧ x.ds = []
  name : x.nm.size ≤ 12
  par : ¬ x.nm.size = 0 → -1 ≤ x.par ∧ x.par < i ∧ (0 ≤ x.par → ex T.nodes x.par = true)
  once : ¬ x.nm.size = 0 → ∀ (j : Nat) (y : Nd), j < i → T.nodes[j]? = some y → ¬ y.nm = x.nm
  ds : DsOk x.ds T.base.length
  op : ¬ x.nm.size = 0 → x.op = (kids T.nodes i).isEmpty
/-- A valid tree. -/
structure Ok (T : Tr) : Prop where
  base1 : 1 ≤ T.base.length
  base2 : T.base.length ≤ 64
  base3 : ∀ s ∈ T.base, s.size = 128
  nods : T.nodes.length ≤ 12
  node : ∀ (i : Nat) (x : Nd), T.nodes[i]? = some x → NdOk T i x
/-- The fuel does not matter once it is enough. -/
theorem see_fuel {T : Tr} (h : Ok T) : ∀ (f g : Nat) (n b : Int), n < f → n < g → see T f n b = see T g n b
  | 0, 0, _, _, _, _ => rfl
  | 0, g + 1, n, b, h1, _ => by rw [see, see, if_pos (by omega)]
  | f + 1, 0, n, b, _, h1 => by rw [see, see, if_pos (by omega)]
  | f + 1, g + 1, n, b, h1, h2 => by
    rw [see, see]
    by_cases hn : n < 0
    · rw [if_pos hn, if_pos hn]
    · rw [if_neg hn, if_neg hn]
      cases hx : T.nodes[n.toNat]? with
      | none => rfl
      | some x =>
        cases hl : look x.ds b with
        | some s => simp only [hl]
        | none =>
          simp only [hl]
          have hk := h.node _ x hx
          by_cases hd : x.nm.size = 0
          · have := (hk.dead hd).1
            exact see_fuel h f g x.par b (by omega) (by omega)
          · have := hk.par hd
            exact see_fuel h f g x.par b (by omega) (by omega)
theorem sees_base {T : Tr} (n b : Int) (hn : n < 0) : sees T n b = base T b := by
  unfold sees
  rw [show (n + 1).toNat = 0 by omega, see]
theorem sees_at {T : Tr} (h : Ok T) {i : Nat} {x : Nd} (hx : T.nodes[i]? = some x) (b : Int) : sees T i b = match look x.ds b with | some s => s | none => sees T x.par b := by
  unfold sees
  rw [show ((i : Int) + 1).toNat = i + 1 by omega, see, if_neg (by omega), show ((i : Int)).toNat = i by omega, hx]
  simp only
  cases look x.ds b with
  | some s => rfl
  | none =>
    have hk := h.node i x hx
    simp only
    by_cases hd : x.nm.size = 0
    · have := (hk.dead hd).1
      rw [this]
      exact see_fuel h _ _ _ b (by omega) (by omega)
    · have := hk.par hd
      exact see_fuel h _ _ _ b (by omega) (by omega)
/-- Nodes with one turned. -/
def upd (N : List Nd) (i : Nat) (f : Nd → Nd) : List Nd := match N[i]? with | some x => N.set i (f x) | none => N
/-- A new node. -/
def created (N : List Nd) (par : Int) (nm : ByteArray) : List Nd := (if 0 ≤ par then upd N par.toNat (fun x => { x with op := false }) else N) ++ [⟨nm, par, true, []⟩]
def createE (T : Tr) (par : Int) (nm : ByteArray) : Int :=
  if ¬ (par = -1 ∨ ex T.nodes par = true) then 4100 else if (find T.nodes nm).isSome then 4101 else if 12 ≤ T.nodes.length then 4102 else 0
def create (T : Tr) (par : Int) (nm : ByteArray) : Tr := if createE T par nm = 0 then ⟨T.base, created T.nodes par nm⟩ else T
/-- The deltas below a block, from it on. -/
def below (ds : List Dl) (b : Int) : List Dl := ds.filter fun d => decide (d.b < b)
def above (ds : List Dl) (b : Int) : List Dl := ds.filter fun d => decide (b < d.b)
def putD (ds : List Dl) (b : Int) (s : ByteArray) (is : Bool) : List Dl := below ds b ++ (if is then [⟨b, s⟩] else []) ++ above ds b
def writeE (T : Tr) (n b : Int) : Int :=
  if ¬ (ex T.nodes n = true ∧ 0 ≤ b ∧ b < T.base.length) then 4100 else match T.nodes[n.toNat]? with | some x => if x.op then 0 else 4103 | none => 4100
def written (T : Tr) (n b : Int) (s : ByteArray) : List Nd := upd T.nodes n.toNat fun x => { x with ds := putD x.ds b s (decide (¬ s = sees T x.par b)) }
def write (T : Tr) (n b : Int) (s : ByteArray) : Tr := if writeE T n b = 0 then ⟨T.base, written T n b s⟩ else T
end Go.Proofs.Ytncgihbnfmpdbaa.Sn
