/-
  Plain laws, no program in sight: snapshot trees (chapter 41).
  Plain laws, no program in sight: lists of deltas (chapter 41).
  Plain laws, no program in sight: trees stay valid; what nodes see (chapter 41).
  Plain laws, no program in sight: create and write keep a tree valid; what the nodes see then (chapter 41).
  Plain laws, no program in sight: write keeps a tree valid; what the nodes see then (chapter 41).
  Plain laws, no program in sight: a node deleted (chapter 41).
-/
import Derived.RowKit
set_option linter.unusedVariables false
set_option linter.unusedSimpArgs false
namespace Go.Proofs.Ytncgihbnfmpdbaa.Sn
/-- A delta: block, content. -/
structure Dl where
  b : Int
  s : ByteArray
/-- A node: name, parent, open, deltas. -/
structure Nd where
  nm : ByteArray
  par : Int
  op : Bool
  ds : List Dl
structure Tr where
  base : List ByteArray
  nodes : List Nd
def dlC (d : Dl) : List Value := [.int .i64 d.b, .string d.s]
theorem dlC_len (x : Dl) : (dlC x).length = 2 := rfl
theorem dlC_one (x : Dl) : ∀ u ∈ dlC x, u.oneCell' = true := by intro u hu; simp [dlC] at hu; rcases hu with rfl | rfl <;> rfl
/-- A node as it lies in memory: its deltas are a slice. -/
structure Nr where
  nm : ByteArray
  par : Int
  op : Bool
  A : Option Addr
  n : Nat
  cap : Nat
def nrC (x : Nr) : List Value := [.string x.nm, .int .i64 x.par, .bool x.op, .slice x.A x.n x.cap]
theorem nrC_len (x : Nr) : (nrC x).length = 4 := rfl
theorem nrC_one (x : Nr) : ∀ u ∈ nrC x, u.oneCell' = true := by intro u hu; simp [nrC] at hu; rcases hu with rfl | rfl | rfl | rfl <;> rfl
def live (x : Nd) : Bool := decide (¬ x.nm.size = 0)
def ex (N : List Nd) (n : Int) : Bool := decide (0 ≤ n) && (match N[n.toNat]? with | some x => live x | none => false)
def isKid (n : Int) (x : Nd) : Bool := live x && decide (x.par = n)
def kidsTo (N : List Nd) (n : Int) : Nat → List Int
  | 0 => []
  | k + 1 => kidsTo N n k ++ (match N[k]? with | some x => if isKid n x then [(k : Int)] else [] | none => [])
def kids (N : List Nd) (n : Int) : List Int := kidsTo N n N.length
def findTo (N : List Nd) (nm : ByteArray) : Nat → Option Nat
  | 0 => none
  | k + 1 => match findTo N nm k with
    | some i => some i
    | none => match N[k]? with | some x => if x.nm = nm then some k else none | none => none
def find (N : List Nd) (nm : ByteArray) : Option Nat := findTo N nm N.length
/-- What the deltas say of a block. -/
def look (ds : List Dl) (b : Int) : Option ByteArray := (ds.find? fun d => decide (d.b = b)).map Dl.s
def base (T : Tr) (b : Int) : ByteArray := T.base.getD b.toNat ⟨#[]⟩
/-- What a node sees; the fuel is one more than its number. -/
def see (T : Tr) : Nat → Int → Int → ByteArray
  | 0, _, b => base T b
  | f + 1, n, b => if n < 0 then base T b else match T.nodes[n.toNat]? with
    | some x => (match look x.ds b with | some s => s | none => see T f x.par b)
    | none => base T b
def sees (T : Tr) (n b : Int) : ByteArray := see T (n + 1).toNat n b
/-- Sorted, on the disk, whole blocks. -/
structure DsOk (ds : List Dl) (n : Nat) : Prop where
  sorted : ds.Pairwise fun x y => x.b < y.b
  all : ∀ d ∈ ds, 0 ≤ d.b ∧ d.b < n ∧ d.s.size = 128
structure NdOk (T : Tr) (i : Nat) (x : Nd) : Prop where
  dead : x.nm.size = 0 → x.par = -1 ∧ x.op = false ∧ x.ds = []
  name : x.nm.size ≤ 12
  par : ¬ x.nm.size = 0 → -1 ≤ x.par ∧ x.par < i ∧ (0 ≤ x.par → ex T.nodes x.par = true)
  once : ¬ x.nm.size = 0 → ∀ (j : Nat) (y : Nd), j < i → T.nodes[j]? = some y → ¬ y.nm = x.nm
  ds : DsOk x.ds T.base.length
  op : ¬ x.nm.size = 0 → x.op = (kids T.nodes i).isEmpty
/-- A valid tree. -/
structure Ok (T : Tr) : Prop where
  base1 : 1 ≤ T.base.length
  base2 : T.base.length ≤ 64
  base3 : ∀ s ∈ T.base, s.size = 128
  nods : T.nodes.length ≤ 12
  node : ∀ (i : Nat) (x : Nd), T.nodes[i]? = some x → NdOk T i x
/-- The fuel does not matter once it is enough. -/
theorem see_fuel {T : Tr} (h : Ok T) : ∀ (f g : Nat) (n b : Int), n < f → n < g → see T f n b = see T g n b
  | 0, 0, _, _, _, _ => rfl
  | 0, g + 1, n, b, h1, _ => by rw [see, see, if_pos (by omega)]
  | f + 1, 0, n, b, _, h1 => by rw [see, see, if_pos (by omega)]
  | f + 1, g + 1, n, b, h1, h2 => by
    rw [see, see]
    by_cases hn : n < 0
    · rw [if_pos hn, if_pos hn]
    · rw [if_neg hn, if_neg hn]
      cases hx : T.nodes[n.toNat]? with
      | none => rfl
      | some x =>
        cases hl : look x.ds b with
        | some s => simp only [hl]
        | none =>
          simp only [hl]
          have hk := h.node _ x hx
          by_cases hd : x.nm.size = 0
          · have := (hk.dead hd).1
            exact see_fuel h f g x.par b (by omega) (by omega)
          · have := hk.par hd
            exact see_fuel h f g x.par b (by omega) (by omega)
theorem sees_base {T : Tr} (n b : Int) (hn : n < 0) : sees T n b = base T b := by
  unfold sees
  rw [show (n + 1).toNat = 0 by omega, see]
theorem sees_at {T : Tr} (h : Ok T) {i : Nat} {x : Nd} (hx : T.nodes[i]? = some x) (b : Int) : sees T i b = match look x.ds b with | some s => s | none => sees T x.par b := by
  unfold sees
  rw [show ((i : Int) + 1).toNat = i + 1 by omega, see, if_neg (by omega), show ((i : Int)).toNat = i by omega, hx]
  simp only
  cases look x.ds b with
  | some s => rfl
  | none =>
    have hk := h.node i x hx
    simp only
    by_cases hd : x.nm.size = 0
    · have := (hk.dead hd).1
      rw [this]
      exact see_fuel h _ _ _ b (by omega) (by omega)
    · have := hk.par hd
      exact see_fuel h _ _ _ b (by omega) (by omega)
/-- Nodes with one turned. -/
def upd (N : List Nd) (i : Nat) (f : Nd → Nd) : List Nd := match N[i]? with | some x => N.set i (f x) | none => N
/-- A new node. -/
def created (N : List Nd) (par : Int) (nm : ByteArray) : List Nd := (if 0 ≤ par then upd N par.toNat (fun x => { x with op := false }) else N) ++ [⟨nm, par, true, []⟩]
def createE (T : Tr) (par : Int) (nm : ByteArray) : Int :=
  if ¬ (par = -1 ∨ ex T.nodes par = true) then 4100 else if (find T.nodes nm).isSome then 4101 else if 12 ≤ T.nodes.length then 4102 else 0
def create (T : Tr) (par : Int) (nm : ByteArray) : Tr := if createE T par nm = 0 then ⟨T.base, created T.nodes par nm⟩ else T
/-- The deltas below a block, from it on. -/
def below (ds : List Dl) (b : Int) : List Dl := ds.filter fun d => decide (d.b < b)
def above (ds : List Dl) (b : Int) : List Dl := ds.filter fun d => decide (b < d.b)
def putD (ds : List Dl) (b : Int) (s : ByteArray) (is : Bool) : List Dl := below ds b ++ (if is then [⟨b, s⟩] else []) ++ above ds b
def writeE (T : Tr) (n b : Int) : Int :=
  if ¬ (ex T.nodes n = true ∧ 0 ≤ b ∧ b < T.base.length) then 4100 else match T.nodes[n.toNat]? with | some x => if x.op then 0 else 4103 | none => 4100
def written (T : Tr) (n b : Int) (s : ByteArray) : List Nd := upd T.nodes n.toNat fun x => { x with ds := putD x.ds b s (decide (¬ s = sees T x.par b)) }
def write (T : Tr) (n b : Int) (s : ByteArray) : Tr := if writeE T n b = 0 then ⟨T.base, written T n b s⟩ else T
end Go.Proofs.Ytncgihbnfmpdbaa.Sn

set_option linter.unusedVariables false
set_option linter.unusedSimpArgs false
namespace Go.Proofs.Ytncgihbnfmpdbaa.Sn
def Srt (l : List Dl) : Prop := l.Pairwise fun x y => x.b < y.b
theorem look_cons (d : Dl) (l : List Dl) (b : Int) : look (d :: l) b = if d.b = b then some d.s else look l b := by
  unfold look
  rw [List.find?_cons]
  by_cases h : d.b = b <;> simp [h]
theorem look_none {l : List Dl} {b : Int} (h : ∀ d ∈ l, ¬ d.b = b) : look l b = none := by
  unfold look
  rw [List.find?_eq_none.2 (by intro x hx; simpa using h x hx)]; rfl
theorem look_mem {l : List Dl} {b : Int} {s : ByteArray} (h : look l b = some s) : ∃ d ∈ l, d.b = b ∧ d.s = s := by
  unfold look at h
  cases hf : l.find? (fun d => decide (d.b = b)) with
  | none => rw [hf] at h; cases h
  | some d =>
    rw [hf] at h
    have := List.find?_some hf
    exact ⟨d, List.mem_of_find?_eq_some hf, by simpa using this, by simpa using h⟩
theorem look_of {l : List Dl} (hs : Srt l) {d : Dl} (hd : d ∈ l) : look l d.b = some d.s := by
  induction l with
  | nil => cases hd
  | cons e l ih =>
    rw [look_cons]
    have h := List.pairwise_cons.1 hs
    rcases List.mem_cons.1 hd with rfl | hd
    · rw [if_pos rfl]
    · have := h.1 d hd
      rw [if_neg (by omega)]
      exact ih h.2 hd
theorem look_app (l m : List Dl) (b : Int) : look (l ++ m) b = match look l b with | some s => some s | none => look m b := by
  induction l with
  | nil => rfl
  | cons d l ih =>
    rw [List.cons_append, look_cons, look_cons]
    by_cases h : d.b = b
    · rw [if_pos h, if_pos h]
    · rw [if_neg h, if_neg h]; exact ih
/-- Two sorted lists that say the same are the same. -/
theorem ds_ext : ∀ (l m : List Dl), Srt l → Srt m → (∀ b, look l b = look m b) → l = m
  | [], [], _, _, _ => rfl
  | [], e :: m, _, hm, h => by
    have := h e.b
    rw [look_cons, if_pos rfl] at this
    cases this
  | d :: l, [], hl, _, h => by
    have := h d.b
    rw [look_cons, if_pos rfl] at this
    cases this
  | d :: l, e :: m, hl, hm, h => by
    have h1 := List.pairwise_cons.1 hl
    have h2 := List.pairwise_cons.1 hm
    have hb : d.b = e.b := by
      rcases Int.lt_trichotomy d.b e.b with c | c | c
      · have := h d.b
        rw [look_cons, if_pos rfl, look_none (l := e :: m)] at this
        · cases this
        · intro x hx
          rcases List.mem_cons.1 hx with rfl | hx
          · omega
          · have := h2.1 x hx; omega
      · exact c
      · have := h e.b
        rw [look_cons e, if_pos rfl, look_none (l := d :: l)] at this
        · cases this
        · intro x hx
          rcases List.mem_cons.1 hx with rfl | hx
          · omega
          · have := h1.1 x hx; omega
    have hsd : d.s = e.s := by
      have := h d.b
      rw [look_cons, if_pos rfl, look_cons, if_pos hb.symm] at this
      injection this
    have hde : d = e := by cases d; cases e; simp at hb hsd; subst hb hsd; rfl
    subst hde
    congr 1
    refine ds_ext l m h1.2 h2.2 fun b => ?_
    by_cases c : d.b = b
    · subst c
      rw [look_none, look_none]
      · intro x hx; have := h2.1 x hx; omega
      · intro x hx; have := h1.1 x hx; omega
    · have := h b
      rw [look_cons, look_cons, if_neg c, if_neg c] at this
      exact this
theorem srt_filter {l : List Dl} (h : Srt l) (p : Dl → Bool) : Srt (l.filter p) := h.sublist List.filter_sublist
theorem below_mem {l : List Dl} {b : Int} {d : Dl} : d ∈ below l b ↔ d ∈ l ∧ d.b < b := by unfold below; rw [List.mem_filter]; simp
theorem above_mem {l : List Dl} {b : Int} {d : Dl} : d ∈ above l b ↔ d ∈ l ∧ b < d.b := by unfold above; rw [List.mem_filter]; simp
theorem putD_srt {l : List Dl} (h : Srt l) (b : Int) (s : ByteArray) (is : Bool) : Srt (putD l b s is) := by
  unfold putD Srt
  refine List.pairwise_append.2 ⟨List.pairwise_append.2 ⟨srt_filter h _, ?_, ?_⟩, srt_filter h _, ?_⟩
  · cases is <;> simp
  · intro x hx y hy
    have := (below_mem.1 hx).2
    cases is
    · simp at hy
    · simp only [if_true, List.mem_singleton] at hy; subst hy; exact this
  · intro x hx y hy
    have h2 := (above_mem.1 hy).2
    rcases List.mem_append.1 hx with hx | hx
    · have := (below_mem.1 hx).2; omega
    · cases is
      · simp at hx
      · simp only [if_true, List.mem_singleton] at hx; subst hx; exact h2
theorem look_filter {l : List Dl} (h : Srt l) (p : Dl → Bool) (b : Int) : look (l.filter p) b = match look l b with | some s => if p ⟨b, s⟩ then some s else none | none => none := by
  induction l with
  | nil => rfl
  | cons d l ih =>
    have h1 := List.pairwise_cons.1 h
    rw [look_cons, List.filter_cons]
    by_cases c : d.b = b
    · subst c
      rw [if_pos rfl]
      simp only
      have hd : (⟨d.b, d.s⟩ : Dl) = d := rfl
      rw [hd]
      by_cases hp : p d = true
      · rw [if_pos hp, if_pos hp, look_cons, if_pos rfl]
      · rw [if_neg hp, if_neg hp]
        exact look_none fun x hx => by have := h1.1 x (List.mem_filter.1 hx).1; omega
    · rw [if_neg c]
      by_cases hp : p d = true
      · rw [if_pos hp, look_cons, if_neg c]; exact ih h1.2
      · rw [if_neg hp]; exact ih h1.2
theorem putD_look {l : List Dl} (h : Srt l) (b c : Int) (s : ByteArray) (is : Bool) : look (putD l b s is) c = if c = b then (if is then some s else none) else look l c := by
  unfold putD
  rw [look_app, look_app]
  unfold below above
  rw [look_filter h, look_filter h]
  by_cases e : c = b
  · subst e
    rw [if_pos rfl]
    cases is
    · cases look l c <;> simp [look]
    · cases look l c <;> simp [look_cons]
  · rw [if_neg e]
    have h3 : look (if is = true then [⟨b, s⟩] else []) c = none := by
      cases is
      · rfl
      · simp only [if_true]; rw [look_cons, if_neg (by simp; exact fun q => e q.symm)]; rfl
    rw [h3]
    cases look l c with
    | none => rfl
    | some s' =>
      simp only
      rcases Int.lt_or_gt_of_ne e with g | g
      · simp [g]
      · have : ¬ c < b := by omega
        simp [this, g]
/-- The deltas of a child, completed by those of its old parent. -/
def merge : List Dl → List Dl → List Dl
  | [], p => p
  | c, [] => c
  | c :: cs, p :: ps => if c.b < p.b then c :: merge cs (p :: ps) else if p.b < c.b then p :: merge (c :: cs) ps else c :: merge cs ps
termination_by c p => c.length + p.length
theorem merge_mem : ∀ (c p : List Dl) (d : Dl), d ∈ merge c p → d ∈ c ∨ d ∈ p
  | [], p, d, h => by rw [merge] at h; exact .inr h
  | c :: cs, [], d, h => by rw [merge] at h; exact .inl h; simp
  | c :: cs, p :: ps, d, h => by
    rw [merge] at h
    split at h
    · rcases List.mem_cons.1 h with rfl | h
      · exact .inl List.mem_cons_self
      · rcases merge_mem cs (p :: ps) d h with h | h
        · exact .inl (List.mem_cons_of_mem _ h)
        · exact .inr h
    · split at h
      · rcases List.mem_cons.1 h with rfl | h
        · exact .inr List.mem_cons_self
        · rcases merge_mem (c :: cs) ps d h with h | h
          · exact .inl h
          · exact .inr (List.mem_cons_of_mem _ h)
      · rcases List.mem_cons.1 h with rfl | h
        · exact .inl List.mem_cons_self
        · rcases merge_mem cs ps d h with h | h
          · exact .inl (List.mem_cons_of_mem _ h)
          · exact .inr (List.mem_cons_of_mem _ h)
termination_by c p => c.length + p.length
theorem merge_srt : ∀ (c p : List Dl), Srt c → Srt p → Srt (merge c p)
  | [], p, _, h => by rw [merge]; exact h
  | c :: cs, [], h, _ => by rw [merge]; exact h; simp
  | c :: cs, p :: ps, h1, h2 => by
    have g1 := List.pairwise_cons.1 h1
    have g2 := List.pairwise_cons.1 h2
    rw [merge]
    split
    · rename_i e
      refine List.pairwise_cons.2 ⟨fun d hd => ?_, merge_srt cs (p :: ps) g1.2 h2⟩
      rcases merge_mem _ _ d hd with hd | hd
      · exact g1.1 d hd
      · rcases List.mem_cons.1 hd with rfl | hd
        · exact e
        · have := g2.1 d hd; omega
    · split
      · rename_i e
        refine List.pairwise_cons.2 ⟨fun d hd => ?_, merge_srt (c :: cs) ps h1 g2.2⟩
        rcases merge_mem _ _ d hd with hd | hd
        · rcases List.mem_cons.1 hd with rfl | hd
          · exact e
          · have := g1.1 d hd; omega
        · exact g2.1 d hd
      · refine List.pairwise_cons.2 ⟨fun d hd => ?_, merge_srt cs ps g1.2 g2.2⟩
        rcases merge_mem _ _ d hd with hd | hd
        · exact g1.1 d hd
        · have := g2.1 d hd; omega
termination_by c p => c.length + p.length
theorem merge_look : ∀ (c p : List Dl) (b : Int), Srt c → Srt p → look (merge c p) b = match look c b with | some s => some s | none => look p b
  | [], p, b, _, _ => by rw [merge]; rfl
  | c :: cs, [], b, _, _ => by
    rw [merge]
    · cases look (c :: cs) b <;> rfl
    · simp
  | c :: cs, p :: ps, b, h1, h2 => by
    have g1 := List.pairwise_cons.1 h1
    have g2 := List.pairwise_cons.1 h2
    rw [merge]
    split
    · rename_i e
      rw [look_cons, look_cons, merge_look cs (p :: ps) b g1.2 h2]
      by_cases q : c.b = b
      · rw [if_pos q, if_pos q]
      · rw [if_neg q, if_neg q]
    · split
      · rename_i e
        rw [look_cons, merge_look (c :: cs) ps b h1 g2.2, look_cons p ps]
        by_cases q : p.b = b
        · rw [if_pos q, if_pos q, look_none (l := c :: cs)]
          intro d hd
          rcases List.mem_cons.1 hd with rfl | hd
          · omega
          · have := g1.1 d hd; omega
        · rw [if_neg q, if_neg q]
      · rw [look_cons, look_cons, look_cons, merge_look cs ps b g1.2 g2.2]
        by_cases q : c.b = b
        · rw [if_pos q, if_pos q]
        · rw [if_neg q, if_neg q, if_neg (by omega)]
termination_by c p => c.length + p.length
end Go.Proofs.Ytncgihbnfmpdbaa.Sn

set_option linter.unusedVariables false
set_option linter.unusedSimpArgs false
namespace Go.Proofs.Ytncgihbnfmpdbaa.Sn
theorem kidsTo_mem (N : List Nd) (n : Int) : ∀ (k : Nat) (j : Int), j ∈ kidsTo N n k ↔ ∃ (i : Nat) (x : Nd), j = i ∧ i < k ∧ N[i]? = some x ∧ isKid n x = true
  | 0, j => by simp [kidsTo]
  | k + 1, j => by
    rw [kidsTo, List.mem_append, kidsTo_mem N n k j]
    constructor
    · rintro (⟨i, x, h1, h2, h3, h4⟩ | h)
      · exact ⟨i, x, h1, by omega, h3, h4⟩
      · split at h
        · rename_i x hx
          split at h
          · rename_i hk
            rw [List.mem_singleton] at h
            exact ⟨k, x, h, by omega, hx, hk⟩
          · cases h
        · cases h
    · rintro ⟨i, x, h1, h2, h3, h4⟩
      by_cases e : i = k
      · subst e
        right
        rw [h3]; simp only; rw [if_pos h4]; simp [h1]
      · exact .inl ⟨i, x, h1, by omega, h3, h4⟩
theorem kids_mem {N : List Nd} {n j : Int} : j ∈ kids N n ↔ ∃ (i : Nat) (x : Nd), j = i ∧ N[i]? = some x ∧ isKid n x = true := by
  unfold kids
  rw [kidsTo_mem]
  constructor
  · rintro ⟨i, x, h1, _, h3, h4⟩; exact ⟨i, x, h1, h3, h4⟩
  · rintro ⟨i, x, h1, h3, h4⟩; exact ⟨i, x, h1, (List.getElem?_eq_some_iff.1 h3).1, h3, h4⟩
theorem kids_none {N : List Nd} {n : Int} : (kids N n).isEmpty = true ↔ ∀ (i : Nat) (x : Nd), N[i]? = some x → isKid n x = false := by
  rw [List.isEmpty_iff]
  constructor
  · intro h i x hx
    cases hk : isKid n x
    · rfl
    · have : (i : Int) ∈ kids N n := kids_mem.2 ⟨i, x, rfl, hx, hk⟩
      rw [h] at this; cases this
  · intro h
    refine List.eq_nil_iff_forall_not_mem.2 fun j hj => ?_
    obtain ⟨i, x, _, hx, hk⟩ := kids_mem.1 hj
    rw [h i x hx] at hk; cases hk
/-- Two lists of nodes in which the same nodes are children of n (or in none are). -/
theorem kids_same {N M : List Nd} {n : Int} (h : ∀ i : Nat, (∃ x, N[i]? = some x ∧ isKid n x = true) ↔ (∃ x, M[i]? = some x ∧ isKid n x = true)) : (kids N n).isEmpty = (kids M n).isEmpty := by
  rw [Bool.eq_iff_iff, kids_none, kids_none]
  constructor
  · intro g i x hx
    cases hk : isKid n x
    · rfl
    · obtain ⟨y, hy, hky⟩ := (h i).2 ⟨x, hx, hk⟩
      rw [g i y hy] at hky; cases hky
  · intro g i x hx
    cases hk : isKid n x
    · rfl
    · obtain ⟨y, hy, hky⟩ := (h i).1 ⟨x, hx, hk⟩
      rw [g i y hy] at hky; cases hky
theorem live_iff {x : Nd} : live x = true ↔ ¬ x.nm.size = 0 := by unfold live; simp
theorem ex_iff {N : List Nd} {n : Int} : ex N n = true ↔ ∃ (i : Nat) (x : Nd), n = i ∧ N[i]? = some x ∧ live x = true := by
  unfold ex
  rw [Bool.and_eq_true, decide_eq_true_eq]
  constructor
  · rintro ⟨h1, h2⟩
    obtain ⟨i, rfl⟩ := Int.eq_ofNat_of_zero_le h1
    rw [show ((i : Int)).toNat = i by omega] at h2
    split at h2
    · rename_i x hx; exact ⟨i, x, rfl, hx, h2⟩
    · cases h2
  · rintro ⟨i, x, rfl, hx, hl⟩
    refine ⟨by omega, ?_⟩
    rw [show ((i : Int)).toNat = i by omega, hx]
    exact hl
theorem upd_at {N : List Nd} {i : Nat} {f : Nd → Nd} (j : Nat) : (upd N i f)[j]? = if i = j then (N[j]?).map f else N[j]? := by
  unfold upd
  cases hx : N[i]? with
  | none =>
    simp only
    split
    · rename_i e; subst e; rw [hx]; rfl
    · rfl
  | some x =>
    simp only
    rw [List.getElem?_set]
    split
    · rename_i e; subst e
      rw [if_pos (List.getElem?_eq_some_iff.1 hx).1, hx]; rfl
    · rfl
theorem upd_len {N : List Nd} {i : Nat} {f : Nd → Nd} : (upd N i f).length = N.length := by
  unfold upd; split <;> simp
theorem findTo_none {N : List Nd} {nm : ByteArray} : ∀ k, findTo N nm k = none ↔ ∀ (i : Nat) (x : Nd), i < k → N[i]? = some x → ¬ x.nm = nm
  | 0 => ⟨fun _ i x h => by omega, fun _ => rfl⟩
  | k + 1 => by
    rw [findTo]
    constructor
    · intro h i x hi hx
      cases hf : findTo N nm k with
      | some j => rw [hf] at h; cases h
      | none =>
        rw [hf] at h
        by_cases e : i = k
        · subst e
          rw [hx] at h
          simp only at h
          split at h
          · cases h
          · assumption
        · exact (findTo_none k).1 hf i x (by omega) hx
    · intro h
      rw [(findTo_none k).2 fun i x hi hx => h i x (by omega) hx]
      simp only
      split
      · rename_i x hx
        rw [if_neg (h k x (by omega) hx)]
      · rfl
theorem find_none {N : List Nd} {nm : ByteArray} : (find N nm).isSome = false ↔ ∀ (i : Nat) (x : Nd), N[i]? = some x → ¬ x.nm = nm := by
  unfold find
  rw [Option.isSome_eq_false_iff, Option.isNone_iff_eq_none, findTo_none]
  exact ⟨fun h i x hx => h i x (List.getElem?_eq_some_iff.1 hx).1 hx, fun h i x _ hx => h i x hx⟩
/-- The nodes of a tree with a new one. -/
theorem created_at {N : List Nd} {par : Int} {nm : ByteArray} (j : Nat) : (created N par nm)[j]? = if j < N.length then (N[j]?).map (fun x => if par = j then { x with op := false } else x) else if j = N.length then some ⟨nm, par, true, []⟩ else none := by
  unfold created
  have hl : (if 0 ≤ par then upd N par.toNat (fun x => { x with op := false }) else N).length = N.length := by split <;> simp [upd_len]
  by_cases h1 : j < N.length
  · rw [if_pos h1, List.getElem?_append_left (by omega)]
    split
    · rename_i hp
      obtain ⟨p, rfl⟩ := Int.eq_ofNat_of_zero_le hp
      rw [show ((p : Int)).toNat = p by omega, upd_at]
      by_cases e : p = j
      · subst e; simp
      · rw [if_neg e]
        have : ¬ (p : Int) = j := by omega
        cases N[j]? <;> simp [this]
    · rename_i hp
      have : ¬ par = j := by omega
      cases N[j]? <;> simp [this]
  · rw [if_neg h1, List.getElem?_append_right (by omega), hl]
    by_cases h2 : j = N.length
    · subst h2; rw [if_pos rfl, Nat.sub_self]; rfl
    · rw [if_neg h2]
      exact List.getElem?_eq_none (by simp; omega)
theorem createE_ok {T : Tr} {par : Int} {nm : ByteArray} (h : createE T par nm = 0) : (par = -1 ∨ ex T.nodes par = true) ∧ (find T.nodes nm).isSome = false ∧ T.nodes.length < 12 := by
  unfold createE at h
  split at h
  · simp at h
  · rename_i h1
    split at h
    · simp at h
    · rename_i h2
      split at h
      · simp at h
      · rename_i h3
        exact ⟨Decidable.not_not.1 h1, by simpa using h2, by omega⟩
end Go.Proofs.Ytncgihbnfmpdbaa.Sn

set_option linter.unusedVariables false
set_option linter.unusedSimpArgs false
namespace Go.Proofs.Ytncgihbnfmpdbaa.Sn
theorem ok_par_lt {T : Tr} (h : Ok T) {i : Nat} {x : Nd} (hx : T.nodes[i]? = some x) : -1 ≤ x.par ∧ x.par < i := by
  by_cases hd : x.nm.size = 0
  · have := ((h.node i x hx).dead hd).1; omega
  · have := (h.node i x hx).par hd; omega
/-- An old node after a creation. -/
def oldC (par : Int) (j : Nat) (x : Nd) : Nd := if par = j then { x with op := false } else x
theorem oldC_same (par : Int) (j : Nat) (x : Nd) : (oldC par j x).nm = x.nm ∧ (oldC par j x).par = x.par ∧ (oldC par j x).ds = x.ds := by unfold oldC; split <;> exact ⟨rfl, rfl, rfl⟩
theorem created_old {N : List Nd} {par : Int} {nm : ByteArray} {j : Nat} {x : Nd} (hx : N[j]? = some x) : (created N par nm)[j]? = some (oldC par j x) := by
  rw [created_at, if_pos (List.getElem?_eq_some_iff.1 hx).1, hx]; rfl
theorem created_new (N : List Nd) (par : Int) (nm : ByteArray) : (created N par nm)[N.length]? = some ⟨nm, par, true, []⟩ := by
  rw [created_at, if_neg (by omega), if_pos rfl]
theorem created_inv {N : List Nd} {par : Int} {nm : ByteArray} {j : Nat} {y : Nd} (hy : (created N par nm)[j]? = some y) : (∃ x, N[j]? = some x ∧ y = oldC par j x) ∨ (j = N.length ∧ y = ⟨nm, par, true, []⟩) := by
  rw [created_at] at hy
  split at hy
  · cases hx : N[j]? with
    | none => rw [hx] at hy; cases hy
    | some x => rw [hx] at hy; injection hy with hy; exact .inl ⟨x, rfl, hy.symm⟩
  · split at hy
    · rename_i h; injection hy with hy; exact .inr ⟨h, hy.symm⟩
    · cases hy
theorem create_ok {T : Tr} {par : Int} {nm : ByteArray} (h : Ok T) (h1 : par = -1 ∨ ex T.nodes par = true) (h2 : (find T.nodes nm).isSome = false) (h3 : T.nodes.length < 12) (h4 : ¬ nm.size = 0) (h5 : nm.size ≤ 12) : Ok ⟨T.base, created T.nodes par nm⟩ := by
  have hlen : (created T.nodes par nm).length = T.nodes.length + 1 := by
    unfold created; rw [List.length_append]; split <;> simp [upd_len]
  have hpar : -1 ≤ par ∧ par < T.nodes.length := by
    rcases h1 with rfl | h1
    · omega
    · obtain ⟨i, x, rfl, hx, _⟩ := ex_iff.1 h1
      have := (List.getElem?_eq_some_iff.1 hx).1; omega
  have hex : ∀ p, ex T.nodes p = true → ex (created T.nodes par nm) p = true := by
    intro p hp
    obtain ⟨i, x, rfl, hx, hl⟩ := ex_iff.1 hp
    refine ex_iff.2 ⟨i, _, rfl, created_old hx, ?_⟩
    rw [live_iff, (oldC_same par i x).1]; exact live_iff.1 hl
  have hfind := find_none.1 h2
  refine ⟨h.base1, h.base2, h.base3, by show (created T.nodes par nm).length ≤ 12; omega, fun i y hy => ?_⟩
  rcases created_inv hy with ⟨x, hx, rfl⟩ | ⟨rfl, rfl⟩
  · have hk := h.node i x hx
    have hi := (List.getElem?_eq_some_iff.1 hx).1
    obtain ⟨e1, e2, e3⟩ := oldC_same par i x
    refine ⟨fun hd => ?_, by rw [e1]; exact hk.name, fun hd => ?_, fun hd j z hj hz => ?_, by rw [e3]; exact hk.ds, fun hd => ?_⟩
    · rw [e1] at hd
      have := hk.dead hd
      have hpi : ¬ par = i := by
        rintro rfl
        rcases h1 with h1 | h1
        · omega
        · obtain ⟨i', x', hii, hx', hl⟩ := ex_iff.1 h1
          obtain rfl : i = i' := by omega
          rw [hx] at hx'; injection hx' with hx'; subst hx'
          exact live_iff.1 hl hd
      unfold oldC
      rw [if_neg hpi]; exact this
    · rw [e1] at hd; rw [e2]
      obtain ⟨g1, g2, g3⟩ := hk.par hd
      exact ⟨g1, g2, fun q => hex _ (g3 q)⟩
    · rw [e1] at hd ⊢
      rcases created_inv hz with ⟨z', hz', rfl⟩ | ⟨hjl, _⟩
      · rw [(oldC_same par j z').1]; exact hk.once hd j z' hj hz'
      · omega
    · rw [e1] at hd
      by_cases hpi : par = i
      · have ho : (oldC par i x).op = false := by unfold oldC; rw [if_pos hpi]
        rw [ho]
        symm
        rw [← Bool.not_eq_true, kids_none]
        intro q
        have := q T.nodes.length _ (created_new T.nodes par nm)
        unfold isKid at this
        rw [show live (⟨nm, par, true, []⟩ : Nd) = true from live_iff.2 h4] at this
        simp [hpi] at this
      · have ho : (oldC par i x).op = x.op := by unfold oldC; rw [if_neg hpi]
        rw [ho, hk.op hd]
        refine kids_same fun j => ?_
        constructor
        · rintro ⟨z, hz, hkz⟩
          refine ⟨_, created_old hz, ?_⟩
          obtain ⟨f1, f2, _⟩ := oldC_same par j z
          unfold isKid live at hkz ⊢
          rw [f1, f2]; exact hkz
        · rintro ⟨z, hz, hkz⟩
          rcases created_inv hz with ⟨z', hz', rfl⟩ | ⟨rfl, rfl⟩
          · refine ⟨z', hz', ?_⟩
            obtain ⟨f1, f2, _⟩ := oldC_same par j z'
            unfold isKid live at hkz ⊢
            rw [f1, f2] at hkz; exact hkz
          · unfold isKid at hkz
            simp at hkz
            exact absurd hkz.2 hpi
  · refine ⟨fun hd => absurd hd h4, h5, fun _ => ⟨hpar.1, hpar.2, fun q => ?_⟩, fun _ j z hj hz => ?_, ⟨List.Pairwise.nil, by simp⟩, fun _ => ?_⟩
    · rcases h1 with h1 | h1
      · simp only at q; omega
      · exact hex _ h1
    · rcases created_inv hz with ⟨z', hz', rfl⟩ | ⟨hjl, _⟩
      · rw [(oldC_same par j z').1]; exact hfind j z' hz'
      · omega
    · symm
      rw [kids_none]
      intro j z hz
      unfold isKid
      have hzp : ¬ z.par = (T.nodes.length : Int) := by
        rcases created_inv hz with ⟨z', hz', rfl⟩ | ⟨rfl, rfl⟩
        · rw [(oldC_same par j z').2.1]
          have := ok_par_lt h hz'
          have := (List.getElem?_eq_some_iff.1 hz').1
          omega
        · simp only; omega
      simp [hzp]
/-- What old nodes see does not change; the new one sees what its parent sees. -/
theorem create_sees {T : Tr} {par : Int} {nm : ByteArray} (h : Ok T) (h' : Ok ⟨T.base, created T.nodes par nm⟩) (hp : par < T.nodes.length) (hp0 : -1 ≤ par) (b : Int) : ∀ (n : Nat), n < T.nodes.length → sees ⟨T.base, created T.nodes par nm⟩ n b = sees T n b := by
  intro n
  induction n using Nat.strongRecOn with
  | ind n ih =>
    intro hn
    obtain ⟨x, hx⟩ : ∃ x, T.nodes[n]? = some x := ⟨_, List.getElem?_eq_getElem hn⟩
    rw [sees_at h hx, sees_at h' (i := n) (x := oldC par n x) (created_old hx)]
    obtain ⟨e1, e2, e3⟩ := oldC_same par n x
    rw [e2, e3]
    cases look x.ds b with
    | some s => rfl
    | none =>
      simp only
      have hq := ok_par_lt h hx
      by_cases hneg : x.par < 0
      · rw [sees_base _ _ hneg, sees_base _ _ hneg]; rfl
      · obtain ⟨p, hp⟩ := Int.eq_ofNat_of_zero_le (by omega : 0 ≤ x.par)
        rw [hp]
        exact ih p (by omega) (by omega)
theorem create_sees_new {T : Tr} {par : Int} {nm : ByteArray} (h : Ok T) (h' : Ok ⟨T.base, created T.nodes par nm⟩) (hp : par < T.nodes.length) (hp0 : -1 ≤ par) (b : Int) : sees ⟨T.base, created T.nodes par nm⟩ T.nodes.length b = sees T par b := by
  rw [sees_at h' (i := T.nodes.length) (x := ⟨nm, par, true, []⟩) (created_new _ _ _)]
  simp only [look, List.find?_nil, Option.map_none]
  by_cases hneg : par < 0
  · rw [sees_base _ _ hneg, sees_base _ _ hneg]; rfl
  · obtain ⟨p, rfl⟩ := Int.eq_ofNat_of_zero_le (by omega : 0 ≤ par)
    exact create_sees h h' hp hp0 b p (by omega)
end Go.Proofs.Ytncgihbnfmpdbaa.Sn

set_option linter.unusedVariables false
set_option linter.unusedSimpArgs false
namespace Go.Proofs.Ytncgihbnfmpdbaa.Sn
/-- Nodes of which one has other deltas. -/
def setDs (N : List Nd) (n : Nat) (ds : List Dl) : List Nd := upd N n fun x => { x with ds := ds }
theorem setDs_at {N : List Nd} {n : Nat} {ds : List Dl} {j : Nat} {x : Nd} (hx : N[j]? = some x) : (setDs N n ds)[j]? = some (if n = j then { x with ds := ds } else x) := by
  unfold setDs; rw [upd_at, hx]; split <;> rfl
theorem setDs_inv {N : List Nd} {n : Nat} {ds : List Dl} {j : Nat} {y : Nd} (hy : (setDs N n ds)[j]? = some y) : ∃ x, N[j]? = some x ∧ y = if n = j then { x with ds := ds } else x := by
  cases hx : N[j]? with
  | none => unfold setDs at hy; rw [upd_at, hx] at hy; split at hy <;> cases hy
  | some x => rw [setDs_at hx] at hy; injection hy with hy; exact ⟨x, rfl, hy.symm⟩
theorem setDs_len (N : List Nd) (n : Nat) (ds : List Dl) : (setDs N n ds).length = N.length := upd_len
theorem setDs_kid (N : List Nd) (n : Nat) (ds : List Dl) (p : Int) : (kids (setDs N n ds) p).isEmpty = (kids N p).isEmpty := by
  refine kids_same fun j => ?_
  constructor
  · rintro ⟨y, hy, hk⟩
    obtain ⟨x, hx, rfl⟩ := setDs_inv hy
    refine ⟨x, hx, ?_⟩
    split at hk <;> exact hk
  · rintro ⟨x, hx, hk⟩
    refine ⟨_, setDs_at hx, ?_⟩
    split <;> exact hk
theorem setDs_ex (N : List Nd) (n : Nat) (ds : List Dl) (p : Int) (h : ex N p = true) : ex (setDs N n ds) p = true := by
  obtain ⟨i, x, rfl, hx, hl⟩ := ex_iff.1 h
  refine ex_iff.2 ⟨i, _, rfl, setDs_at hx, ?_⟩
  split <;> exact hl
/-- Valid deltas in a node that exists leave the tree valid. -/
theorem setDs_ok {T : Tr} (h : Ok T) {n : Nat} {x : Nd} (hx : T.nodes[n]? = some x) (hl : live x = true) {ds : List Dl} (hd : DsOk ds T.base.length) : Ok ⟨T.base, setDs T.nodes n ds⟩ := by
  refine ⟨h.base1, h.base2, h.base3, by show (setDs T.nodes n ds).length ≤ 12; rw [setDs_len]; exact h.nods, fun i y hy => ?_⟩
  obtain ⟨z, hz, rfl⟩ := setDs_inv hy
  have hk := h.node i z hz
  have e1 : (if n = i then { z with ds := ds } else z).nm = z.nm := by split <;> rfl
  have e2 : (if n = i then { z with ds := ds } else z).par = z.par := by split <;> rfl
  have e3 : (if n = i then { z with ds := ds } else z).op = z.op := by split <;> rfl
  refine ⟨fun q => ?_, by rw [e1]; exact hk.name, fun q => ?_, fun q j w hj hw => ?_, ?_, fun q => ?_⟩
  · rw [e1] at q
    have hni : ¬ n = i := by
      rintro rfl
      rw [hx] at hz; injection hz with hz; subst hz
      exact live_iff.1 hl q
    rw [if_neg hni]; exact hk.dead q
  · rw [e1] at q; rw [e2]
    obtain ⟨g1, g2, g3⟩ := hk.par q
    exact ⟨g1, g2, fun r => setDs_ex _ _ _ _ (g3 r)⟩
  · rw [e1] at q ⊢
    obtain ⟨v, hv, rfl⟩ := setDs_inv hw
    have : (if n = j then { v with ds := ds } else v).nm = v.nm := by split <;> rfl
    rw [this]; exact hk.once q j v hj hv
  · by_cases e : n = i
    · rw [if_pos e]; exact hd
    · rw [if_neg e]; exact hk.ds
  · rw [e1] at q; rw [e3, hk.op q, setDs_kid]
theorem putD_ok {ds : List Dl} {N : Nat} (h : DsOk ds N) {b : Int} {s : ByteArray} (h0 : 0 ≤ b) (h1 : b < N) (hs : s.size = 128) (is : Bool) : DsOk (putD ds b s is) N := by
  refine ⟨putD_srt h.sorted b s is, fun d hd => ?_⟩
  unfold putD at hd
  rcases List.mem_append.1 hd with hd | hd
  · rcases List.mem_append.1 hd with hd | hd
    · exact h.all d (below_mem.1 hd).1
    · cases is
      · simp at hd
      · simp only [if_true, List.mem_singleton] at hd; subst hd; exact ⟨h0, h1, hs⟩
  · exact h.all d (above_mem.1 hd).1
/-- Nodes that do not hang on a node see nothing of what is written there. -/
theorem setDs_sees {T : Tr} (h : Ok T) {n : Nat} {ds : List Dl} (h' : Ok ⟨T.base, setDs T.nodes n ds⟩) (hno : ∀ (i : Nat) (x : Nd), T.nodes[i]? = some x → ¬ x.par = n) (c : Int) : ∀ (m : Nat), m < T.nodes.length → ¬ m = n → sees ⟨T.base, setDs T.nodes n ds⟩ m c = sees T m c := by
  intro m
  induction m using Nat.strongRecOn with
  | ind m ih =>
    intro hm hmn
    obtain ⟨x, hx⟩ : ∃ x, T.nodes[m]? = some x := ⟨_, List.getElem?_eq_getElem hm⟩
    have hx' := setDs_at (n := n) (ds := ds) hx
    rw [if_neg (fun e => hmn e.symm)] at hx'
    rw [sees_at h hx, sees_at h' (i := m) hx']
    cases look x.ds c with
    | some s => rfl
    | none =>
      simp only
      have hq := ok_par_lt h hx
      by_cases hneg : x.par < 0
      · rw [sees_base _ _ hneg, sees_base _ _ hneg]; rfl
      · obtain ⟨p, hp⟩ := Int.eq_ofNat_of_zero_le (by omega : 0 ≤ x.par)
        rw [hp]
        exact ih p (by omega) (by omega) (fun e => hno m x hx (by rw [hp, e]))
theorem open_no {T : Tr} (h : Ok T) {n : Nat} {x : Nd} (hx : T.nodes[n]? = some x) (hl : live x = true) (ho : x.op = true) : ∀ (i : Nat) (y : Nd), T.nodes[i]? = some y → ¬ y.par = n := by
  intro i y hy e
  have hk := (h.node n x hx).op (live_iff.1 hl)
  rw [ho] at hk
  have := kids_none.1 hk.symm i y hy
  unfold isKid at this
  by_cases hd : y.nm.size = 0
  · have := ((h.node i y hy).dead hd).1; omega
  · rw [live_iff.2 hd] at this; simp [e] at this
/-- What is seen after a write. -/
theorem write_sees {T : Tr} (h : Ok T) {n : Nat} {x : Nd} (hx : T.nodes[n]? = some x) (hl : live x = true) (ho : x.op = true) {b : Int} {s : ByteArray} (h0 : 0 ≤ b) (h1 : b < T.base.length) (hs : s.size = 128) (c : Int) :
    sees ⟨T.base, setDs T.nodes n (putD x.ds b s (decide (¬ s = sees T x.par b)))⟩ n c = if c = b then s else sees T n c := by
  have hd := (h.node n x hx).ds
  obtain ⟨is, his⟩ : ∃ is, decide (¬ s = sees T x.par b) = is := ⟨_, rfl⟩
  rw [his]
  have h' := setDs_ok h hx hl (putD_ok hd h0 h1 hs is)
  have hno := open_no h hx hl ho
  have hx' := setDs_at (n := n) (ds := putD x.ds b s is) hx
  rw [if_pos rfl] at hx'
  rw [sees_at h' (i := n) hx', sees_at h hx]
  simp only
  rw [putD_look hd.sorted]
  have hpar : sees ⟨T.base, setDs T.nodes n (putD x.ds b s is)⟩ x.par c = sees T x.par c := by
    have hq := ok_par_lt h hx
    by_cases hneg : x.par < 0
    · rw [sees_base _ _ hneg, sees_base _ _ hneg]; rfl
    · obtain ⟨p, hp⟩ := Int.eq_ofNat_of_zero_le (by omega : 0 ≤ x.par)
      have := (List.getElem?_eq_some_iff.1 hx).1
      rw [hp] at hq ⊢
      exact setDs_sees h h' hno c p (by omega) (by omega)
  by_cases e : c = b
  · subst e
    rw [if_pos rfl, if_pos rfl]
    cases is
    · simp only [Bool.false_eq_true, if_false]
      rw [hpar]
      simpa using (Decidable.not_not.1 (of_decide_eq_false his)).symm
    · rfl
  · rw [if_neg e, if_neg e]
    cases look x.ds c with
    | some s' => rfl
    | none => simp only; exact hpar
end Go.Proofs.Ytncgihbnfmpdbaa.Sn

set_option linter.unusedVariables false
set_option linter.unusedSimpArgs false
namespace Go.Proofs.Ytncgihbnfmpdbaa.Sn
def dead : Nd := ⟨⟨#[]⟩, -1, false, []⟩
/-- Has n no child but, perhaps, one node that is left out. -/
def alone (N : List Nd) (but : Nat) (p : Int) : Bool := (kids N p).all fun j => decide (j = (but : Int))
/-- The deltas of the child of a deleted node. -/
def kept (T : Tr) (c p : List Dl) (up : Int) : List Dl := (merge c p).filter fun d => decide (¬ d.s = sees T up d.b)
/-- The child, if there is just one. -/
def child (N : List Nd) (n : Nat) : Option Nat := match kids N n with | [j] => some j.toNat | _ => none
/-- A node after the deletion of n, whose parent is up, whose child is ko (with these deltas). -/
def delF (N : List Nd) (n : Nat) (up : Int) (ko : Option (Nat × List Dl)) (i : Nat) (y : Nd) : Nd :=
  if i = n then dead else match ko with
    | some k => if i = k.1 then { y with par := up, ds := k.2 } else y
    | none => if (i : Int) = up ∧ alone N n up = true then { y with op := true } else y
def del (N : List Nd) (n : Nat) (up : Int) (ko : Option (Nat × List Dl)) : List Nd := N.mapIdx (delF N n up ko)
theorem del_at {N : List Nd} {n : Nat} {up : Int} {ko : Option (Nat × List Dl)} {i : Nat} {y : Nd} (hy : N[i]? = some y) : (del N n up ko)[i]? = some (delF N n up ko i y) := by
  unfold del; rw [List.getElem?_mapIdx, hy]; rfl
theorem del_inv {N : List Nd} {n : Nat} {up : Int} {ko : Option (Nat × List Dl)} {i : Nat} {z : Nd} (hz : (del N n up ko)[i]? = some z) : ∃ y, N[i]? = some y ∧ z = delF N n up ko i y := by
  unfold del at hz; rw [List.getElem?_mapIdx] at hz
  cases hy : N[i]? with
  | none => rw [hy] at hz; cases hz
  | some y => rw [hy] at hz; injection hz with hz; exact ⟨y, rfl, hz.symm⟩
theorem del_len (N : List Nd) (n : Nat) (up : Int) (ko : Option (Nat × List Dl)) : (del N n up ko).length = N.length := List.length_mapIdx
theorem delF_nm {N : List Nd} {n : Nat} {up : Int} {ko : Option (Nat × List Dl)} {i : Nat} {y : Nd} (h : ¬ i = n) : (delF N n up ko i y).nm = y.nm := by
  unfold delF; rw [if_neg h]
  split
  · split <;> rfl
  · split <;> rfl
theorem delF_par {N : List Nd} {n : Nat} {up : Int} {ko : Option (Nat × List Dl)} {i : Nat} {y : Nd} (h : ¬ i = n) (hk : ∀ k, ko = some k → ¬ i = k.1) : (delF N n up ko i y).par = y.par ∧ (delF N n up ko i y).ds = y.ds := by
  unfold delF; rw [if_neg h]
  split
  · rename_i k
    rw [if_neg (hk k rfl)]; exact ⟨rfl, rfl⟩
  · split <;> exact ⟨rfl, rfl⟩
theorem delF_kid {N : List Nd} {n : Nat} {up : Int} {k : Nat × List Dl} {y : Nd} (h : ¬ k.1 = n) : delF N n up (some k) k.1 y = { y with par := up, ds := k.2 } := by
  unfold delF; rw [if_neg h]; simp
/-- The child is the one child. -/
structure Kid (T : Tr) (n : Nat) (ko : Option (Nat × List Dl)) : Prop where
  only : ∀ (i : Nat) (y : Nd), T.nodes[i]? = some y → isKid n y = true → ∃ k, ko = some k ∧ i = k.1
  is : ∀ k, ko = some k → ∃ y, T.nodes[k.1]? = some y ∧ isKid n y = true ∧ DsOk k.2 T.base.length
theorem kid_gt {T : Tr} (h : Ok T) {n : Nat} {ko : Option (Nat × List Dl)} (hk : Kid T n ko) {k : Nat × List Dl} (e : ko = some k) : n < k.1 := by
  obtain ⟨y, hy, hi, _⟩ := hk.is k e
  unfold isKid at hi
  simp only [Bool.and_eq_true, decide_eq_true_eq] at hi
  have := ok_par_lt h hy
  omega
theorem del_ok {T : Tr} (h : Ok T) {n : Nat} {x : Nd} (hx : T.nodes[n]? = some x) (hl : live x = true) {ko : Option (Nat × List Dl)} (hk : Kid T n ko) : Ok ⟨T.base, del T.nodes n x.par ko⟩ := by
  have hxp := (h.node n x hx).par (live_iff.1 hl)
  have hgt := fun {k} e => kid_gt h hk (k := k) e
  have hup : ∀ p : Nat, x.par = p → ∃ z, T.nodes[p]? = some z ∧ live z = true := by
    intro p hp
    obtain ⟨i, z, e, hz, hlz⟩ := ex_iff.1 (hxp.2.2 (by omega))
    obtain rfl : i = p := by omega
    exact ⟨z, hz, hlz⟩
  -- the kids of another node
  have hkids : ∀ i : Nat, ¬ i = n → ¬ (i : Int) = x.par → (kids (del T.nodes n x.par ko) i).isEmpty = (kids T.nodes i).isEmpty := by
    intro i hin hiu
    refine kids_same fun j => ?_
    constructor
    · rintro ⟨z, hz, hkz⟩
      obtain ⟨y, hy, rfl⟩ := del_inv hz
      refine ⟨y, hy, ?_⟩
      by_cases e : j = n
      · subst e
        unfold delF at hkz; rw [if_pos rfl] at hkz
        unfold isKid live dead at hkz; simp at hkz
      · by_cases e2 : ∃ k, ko = some k ∧ j = k.1
        · obtain ⟨k, ek, rfl⟩ := e2
          subst ek
          rw [delF_kid e] at hkz
          unfold isKid at hkz
          simp only [Bool.and_eq_true, decide_eq_true_eq] at hkz
          exact absurd hkz.2.symm hiu
        · obtain ⟨f1, _⟩ := delF_par (N := T.nodes) (up := x.par) (ko := ko) (y := y) e (fun k ek eq => e2 ⟨k, ek, eq⟩)
          unfold isKid live at hkz ⊢
          rw [delF_nm e, f1] at hkz; exact hkz
    · rintro ⟨y, hy, hky⟩
      refine ⟨_, del_at hy, ?_⟩
      have e : ¬ j = n := by
        rintro rfl
        rw [hx] at hy; injection hy with hy; subst hy
        unfold isKid at hky
        simp only [Bool.and_eq_true, decide_eq_true_eq] at hky
        exact hiu hky.2.symm
      have e2 : ∀ k, ko = some k → ¬ j = k.1 := by
        rintro k ek rfl
        obtain ⟨y', hy', hi', _⟩ := hk.is k ek
        rw [hy] at hy'; injection hy' with hy'; subst hy'
        unfold isKid at hky hi'
        simp only [Bool.and_eq_true, decide_eq_true_eq] at hky hi'
        omega
      obtain ⟨f1, _⟩ := delF_par (N := T.nodes) (up := x.par) (ko := ko) (y := y) e e2
      unfold isKid live at hky ⊢
      rw [delF_nm e, f1]; exact hky
  have hex : ∀ p : Int, ¬ p = n → ex T.nodes p = true → ex (del T.nodes n x.par ko) p = true := by
    intro p hp he
    obtain ⟨i, z, rfl, hz, hlz⟩ := ex_iff.1 he
    refine ex_iff.2 ⟨i, _, rfl, del_at hz, ?_⟩
    rw [live_iff, delF_nm (by omega)]; exact live_iff.1 hlz
  refine ⟨h.base1, h.base2, h.base3, by show (del T.nodes n x.par ko).length ≤ 12; rw [del_len]; exact h.nods, fun i z hz => ?_⟩
  obtain ⟨y, hy, rfl⟩ := del_inv hz
  by_cases hin : i = n
  · subst hin
    have : delF T.nodes i x.par ko i y = dead := by unfold delF; rw [if_pos rfl]
    rw [this]
    exact ⟨fun _ => ⟨rfl, rfl, rfl⟩, Nat.zero_le _, fun q => absurd rfl q, fun q => absurd rfl q, ⟨List.Pairwise.nil, by simp [dead]⟩, fun q => absurd rfl q⟩
  · have hkn := h.node i y hy
    have enm := delF_nm (N := T.nodes) (up := x.par) (ko := ko) (y := y) hin
    refine ⟨fun q => ?_, by rw [enm]; exact hkn.name, fun q => ?_, fun q j w hj hw => ?_, ?_, fun q => ?_⟩
    · rw [enm] at q
      have hd := hkn.dead q
      have hnk : ∀ k, ko = some k → ¬ i = k.1 := by
        rintro k ek rfl
        obtain ⟨y', hy', hi', _⟩ := hk.is k ek
        rw [hy] at hy'; injection hy' with hy'; subst hy'
        unfold isKid at hi'
        simp only [Bool.and_eq_true] at hi'
        exact live_iff.1 hi'.1 q
      have hnu : ¬ (i : Int) = x.par := by
        intro e
        obtain ⟨z', hz', hlz⟩ := hup i e.symm
        rw [hy] at hz'; injection hz' with hz'; subst hz'
        exact live_iff.1 hlz q
      have : delF T.nodes n x.par ko i y = y := by
        unfold delF; rw [if_neg hin]
        split
        · rename_i k; rw [if_neg (hnk k rfl)]
        · rw [if_neg (fun e => hnu e.1)]
      rw [this]; exact hd
    · rw [enm] at q
      obtain ⟨g1, g2, g3⟩ := hkn.par q
      by_cases e2 : ∃ k, ko = some k ∧ i = k.1
      · obtain ⟨k, ek, rfl⟩ := e2
        have := hgt ek
        subst ek
        rw [delF_kid hin]
        simp only
        refine ⟨hxp.1, by omega, fun r => hex _ (by omega) (hxp.2.2 r)⟩
      · obtain ⟨f1, _⟩ := delF_par (N := T.nodes) (up := x.par) (ko := ko) (y := y) hin (fun k ek eq => e2 ⟨k, ek, eq⟩)
        rw [f1]
        refine ⟨g1, g2, fun r => hex _ (fun e => e2 ?_) (g3 r)⟩
        exact hk.only i y hy (by unfold isKid; rw [live_iff.2 q, e]; simp)
    · rw [enm] at q ⊢
      obtain ⟨v, hv, rfl⟩ := del_inv hw
      by_cases e : j = n
      · subst e
        have : delF T.nodes j x.par ko j v = dead := by unfold delF; rw [if_pos rfl]
        rw [this]
        intro e3
        apply q
        rw [← e3]; rfl
      · rw [delF_nm e]; exact hkn.once q j v hj hv
    · by_cases e2 : ∃ k, ko = some k ∧ i = k.1
      · obtain ⟨k, ek, rfl⟩ := e2
        obtain ⟨_, _, _, hds⟩ := hk.is k ek
        subst ek
        rw [delF_kid hin]; exact hds
      · rw [(delF_par (N := T.nodes) (up := x.par) (ko := ko) (y := y) hin (fun k ek eq => e2 ⟨k, ek, eq⟩)).2]; exact hkn.ds
    · rw [enm] at q
      by_cases hiu : (i : Int) = x.par
      · -- the parent
        have hnot : y.op = false := by
          rw [hkn.op q, ← Bool.not_eq_true, kids_none]
          intro g
          have := g n x hx
          unfold isKid at this
          rw [hl] at this
          simp [hiu] at this
        cases ko with
        | some k =>
          have hik : ¬ i = k.1 := by have := hgt rfl; omega
          have ho : (delF T.nodes n x.par (some k) i y).op = y.op := by unfold delF; rw [if_neg hin]; simp only; rw [if_neg hik]
          rw [ho, hnot]
          symm
          rw [← Bool.not_eq_true, kids_none]
          intro g
          obtain ⟨y', hy', hi', _⟩ := hk.is k rfl
          have := g k.1 _ (del_at hy')
          have hkn' : ¬ k.1 = n := by have := hgt rfl; omega
          rw [delF_kid hkn'] at this
          unfold isKid live at this hi'
          simp only [Bool.and_eq_true] at hi'
          simp [hiu] at this
          simp at hi'
          exact hi'.1 this
        | none =>
          have hkk : ∀ j : Nat, ¬ j = n → ∀ v, T.nodes[j]? = some v → isKid i (delF T.nodes n x.par none j v) = isKid i v := by
            intro j hj v hv
            obtain ⟨f1, _⟩ := delF_par (N := T.nodes) (up := x.par) (ko := none) (y := v) hj (fun k ek => by cases ek)
            unfold isKid live
            rw [delF_nm hj, f1]
          by_cases ha : alone T.nodes n x.par = true
          · have ho : (delF T.nodes n x.par none i y).op = true := by unfold delF; rw [if_neg hin]; simp only; rw [if_pos ⟨hiu, ha⟩]
            rw [ho]
            symm
            rw [kids_none]
            intro j z hz
            obtain ⟨v, hv, rfl⟩ := del_inv hz
            by_cases e : j = n
            · subst e
              unfold delF; rw [if_pos rfl]; rfl
            · rw [hkk j e v hv]
              cases hkv : isKid i v
              · rfl
              · have hm : (j : Int) ∈ kids T.nodes x.par := kids_mem.2 ⟨j, v, rfl, hv, by rw [← hiu]; exact hkv⟩
                have := List.all_eq_true.1 ha _ hm
                simp at this
                omega
          · have ho : (delF T.nodes n x.par none i y).op = y.op := by unfold delF; rw [if_neg hin]; simp only; rw [if_neg (fun e => ha e.2)]
            rw [ho, hnot]
            symm
            rw [← Bool.not_eq_true, kids_none]
            intro g
            apply ha
            unfold alone
            rw [List.all_eq_true]
            intro j hj
            obtain ⟨j', v, rfl, hv, hkv⟩ := kids_mem.1 hj
            by_cases e : j' = n
            · simp [e]
            · have := g j' _ (del_at hv)
              rw [hkk j' e v hv, hiu, hkv] at this
              cases this
      · have ho : (delF T.nodes n x.par ko i y).op = y.op := by
          unfold delF; rw [if_neg hin]
          split
          · split <;> rfl
          · rw [if_neg (fun e => hiu e.1)]
        rw [ho, hkn.op q, hkids i hin hiu]
/-- What the other nodes see does not change. -/
theorem del_sees {T : Tr} (h : Ok T) {n : Nat} {x : Nd} (hx : T.nodes[n]? = some x) (hl : live x = true) {ko : Option (Nat × List Dl)} (hk : Kid T n ko) (hd : ∀ k y, ko = some k → T.nodes[k.1]? = some y → k.2 = kept T y.ds x.ds x.par) (c : Int) :
    ∀ m : Nat, m < T.nodes.length → ¬ m = n → sees ⟨T.base, del T.nodes n x.par ko⟩ m c = sees T m c := by
  have h' := del_ok h hx hl hk
  have hxp := ok_par_lt h hx
  have hnl := (List.getElem?_eq_some_iff.1 hx).1
  intro m
  induction m using Nat.strongRecOn with
  | ind m ih =>
    intro hm hmn
    obtain ⟨y, hy⟩ : ∃ y, T.nodes[m]? = some y := ⟨_, List.getElem?_eq_getElem hm⟩
    have hyp := ok_par_lt h hy
    rw [sees_at h hy, sees_at h' (i := m) (del_at hy)]
    by_cases e2 : ∃ k, ko = some k ∧ m = k.1
    · obtain ⟨k, ek, rfl⟩ := e2
      have hgt := kid_gt h hk ek
      obtain ⟨y', hy', hi', _⟩ := hk.is k ek
      rw [hy] at hy'; injection hy' with hy'; subst hy'
      unfold isKid at hi'
      simp only [Bool.and_eq_true, decide_eq_true_eq] at hi'
      have hkd := hd k y ek hy
      subst ek
      rw [delF_kid hmn]
      simp only
      have hpar : sees ⟨T.base, del T.nodes n x.par (some k)⟩ x.par c = sees T x.par c := by
        by_cases hneg : x.par < 0
        · rw [sees_base _ _ hneg, sees_base _ _ hneg]; rfl
        · obtain ⟨p, hp⟩ := Int.eq_ofNat_of_zero_le (by omega : 0 ≤ x.par)
          rw [hp] at hxp ⊢
          have := ih p (by omega) (by omega) (by omega)
          rw [hp] at this; exact this
      have hs1 := (h.node k.1 y hy).ds.sorted
      have hs2 := (h.node n x hx).ds.sorted
      rw [hkd]
      unfold kept
      rw [look_filter (merge_srt _ _ hs1 hs2), merge_look _ _ _ hs1 hs2, hi'.2, sees_at h hx]
      cases look y.ds c with
      | some s =>
        simp only
        by_cases g : s = sees T x.par c
        · simp only [g, not_true, decide_false, Bool.false_eq_true, if_false]; exact hpar
        · simp [g]
      | none =>
        simp only
        cases look x.ds c with
        | some s =>
          simp only
          by_cases g : s = sees T x.par c
          · simp only [g, not_true, decide_false, Bool.false_eq_true, if_false]; exact hpar
          · simp [g]
        | none => exact hpar
    · obtain ⟨f1, f2⟩ := delF_par (N := T.nodes) (up := x.par) (ko := ko) (y := y) hmn (fun k ek eq => e2 ⟨k, ek, eq⟩)
      rw [f1, f2]
      cases look y.ds c with
      | some s => rfl
      | none =>
        simp only
        by_cases hneg : y.par < 0
        · rw [sees_base _ _ hneg, sees_base _ _ hneg]; rfl
        · obtain ⟨p, hp⟩ := Int.eq_ofNat_of_zero_le (by omega : 0 ≤ y.par)
          rw [hp]
          refine ih p (by omega) (by omega) (fun e => e2 ?_)
          have hld : live y = true := by
            rw [live_iff]; intro q
            have := ((h.node m y hy).dead q).1; omega
          exact hk.only m y hy (by unfold isKid; rw [hld, hp, e]; simp)
end Go.Proofs.Ytncgihbnfmpdbaa.Sn
