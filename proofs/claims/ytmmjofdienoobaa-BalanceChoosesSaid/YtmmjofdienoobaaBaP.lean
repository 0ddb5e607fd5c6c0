/-
  Plain laws, no program in sight: placement and balance (chapter 40).
-/
import Derived.Test.YtmmjofdienoobaaAdP
set_option linter.unusedVariables false
namespace Go.Proofs.Ytmmjofdienoobaa.Ba
open Ad
/-- A host: memory, processor time, whether it is up. -/
structure Hc where
  m : Int
  c : Int
  up : Bool
/-- A move: guest, from, to. -/
structure Mv where
  g : Int
  f : Int
  t : Int
def hcC (x : Hc) : List Value := [.int .i64 x.m, .int .i64 x.c, .bool x.up]
def mvC (x : Mv) : List Value := [.int .i64 x.g, .int .i64 x.f, .int .i64 x.t]
def inC (x : Int) : List Value := [.int .i64 x]
theorem hcC_len (x : Hc) : (hcC x).length = 3 := rfl
theorem mvC_len (x : Mv) : (mvC x).length = 3 := rfl
theorem inC_len (x : Int) : (inC x).length = 1 := rfl
theorem hcC_one (x : Hc) : ∀ u ∈ hcC x, u.oneCell' = true := by intro u hu; simp [hcC] at hu; rcases hu with rfl | rfl | rfl <;> rfl
theorem mvC_one (x : Mv) : ∀ u ∈ mvC x, u.oneCell' = true := by intro u hu; simp [mvC] at hu; rcases hu with rfl | rfl | rfl <;> rfl
theorem inC_one (x : Int) : ∀ u ∈ inC x, u.oneCell' = true := by intro u hu; simp [inC] at hu; subst hu; rfl
/-- The guests of a host. -/
def gu (Z : List (Dem × Int)) (h : Int) : List Dem := (Z.filter fun p => decide (p.2 = h)).map Prod.fst
/-- All but one, if that is there. -/
def noAt (but : Int) (Z : List (Dem × Int)) : List (Dem × Int) := if 0 ≤ but then Z.eraseIdx but.toNat else Z
def one (x h : Int) (ok : Bool) (d : Dem) : List Dem := if ok && decide (x = h) then [d] else []
theorem gu_app (Z Y : List (Dem × Int)) (h : Int) : gu (Z ++ Y) h = gu Z h ++ gu Y h := by unfold gu; rw [List.filter_append, List.map_append]
theorem gu_len (Z : List (Dem × Int)) (h : Int) : (gu Z h).length ≤ Z.length := by unfold gu; rw [List.length_map]; exact List.length_filter_le _ _
theorem zip_take (L : List Dem) (on : List Int) (k : Nat) (d : Dem) (x : Int) (h1 : L[k]? = some d) (h2 : on[k]? = some x) : (L.zip on).take (k + 1) = (L.zip on).take k ++ [(d, x)] := by
  obtain ⟨l1, rfl⟩ := List.getElem?_eq_some_iff.1 h1
  obtain ⟨l2, rfl⟩ := List.getElem?_eq_some_iff.1 h2
  have hl : k < (L.zip on).length := by rw [List.length_zip]; omega
  rw [List.take_succ_eq_append_getElem hl, List.getElem_zip]
theorem gu_take (L : List Dem) (on : List Int) (k : Nat) (d : Dem) (x h : Int) (h1 : L[k]? = some d) (h2 : on[k]? = some x) : gu ((L.zip on).take (k + 1)) h = gu ((L.zip on).take k) h ++ one x h true d := by
  rw [zip_take L on k d x h1 h2, gu_app]
  congr 1
  unfold gu one
  by_cases e : x = h <;> simp [e]
theorem noAt_take (L : List Dem) (on : List Int) (k : Nat) (d : Dem) (x h but : Int) (h1 : L[k]? = some d) (h2 : on[k]? = some x) : gu (noAt but ((L.zip on).take (k + 1))) h = gu (noAt but ((L.zip on).take k)) h ++ one x h (decide ((k : Int) ≠ but)) d := by
  have h3 := zip_take L on k d x h1 h2
  have l1 := (List.getElem?_eq_some_iff.1 h1).1
  have l2 := (List.getElem?_eq_some_iff.1 h2).1
  have hl : ((L.zip on).take k).length = k := by rw [List.length_take, List.length_zip]; omega
  unfold noAt
  split
  · obtain ⟨i, rfl⟩ := Int.eq_ofNat_of_zero_le (by assumption : 0 ≤ but)
    rw [h3, show ((i : Int)).toNat = i by omega, List.eraseIdx_append]
    rcases Nat.lt_trichotomy i k with c | c | c
    · rw [if_pos (by omega), gu_app]
      congr 1
      unfold gu one
      by_cases e : x = h <;> simp [e] <;> omega
    · subst c
      have e1 : ((L.zip on).take i).eraseIdx i = (L.zip on).take i := List.eraseIdx_of_length_le (by omega)
      rw [if_neg (by omega), hl, Nat.sub_self, e1, gu_app]
      congr 1
      unfold gu one
      simp
    · have e1 : ((L.zip on).take k).eraseIdx i = (L.zip on).take k := List.eraseIdx_of_length_le (by omega)
      have e2 : [(d, x)].eraseIdx (i - k) = [(d, x)] := List.eraseIdx_of_length_le (by simp; omega)
      rw [if_neg (by omega), hl, e1, e2, gu_app]
      congr 1
      unfold gu one
      by_cases e : x = h <;> simp [e] <;> omega
  · rw [gu_take L on k d x h h1 h2]
    congr 1
    unfold one
    by_cases e : x = h <;> simp [e] <;> omega
/-- What the host holds, is all that fits. -/
def fitTo (H : List Hc) (Z : List (Dem × Int)) : Nat → Bool
  | 0 => true
  | k + 1 => fitTo H Z k && (match H[k]? with | some c => fits c.m c.c c.up (gu Z k) | none => true)
def out (H : List Hc) (L : List Dem) (on : List Int) : Bool := decide (H.length < 1 ∨ 6 < H.length ∨ 16 < L.length ∨ on.length ≠ L.length)
def inH (n : Nat) (x : Int) : Bool := decide (0 ≤ x) && decide (x < n)
/-- A valid placement. -/
def place (H : List Hc) (L : List Dem) (on : List Int) : Bool := !out H L on && (on.all (inH H.length) && fitTo H (L.zip on) H.length)
def load (x : Hc) (L : List Dem) : Int := if valid x.m x.c L = true ∧ x.m ≠ 0 then sumR L * 1000 / x.m else 0
def loads (H : List Hc) (Z : List (Dem × Int)) : Nat → List Int
  | 0 => []
  | k + 1 => loads H Z k ++ (match H[k]? with | some c => if c.up then [load c (gu Z k)] else [] | none => [])
def mx : List Int → Int
  | [] => 0
  | a :: l => l.foldl max a
def mn : List Int → Int
  | [] => 0
  | a :: l => l.foldl min a
def spreadL (l : List Int) : Int × Bool := if l = [] then (0, false) else (mx l - mn l, true)
def spread (H : List Hc) (L : List Dem) (on : List Int) : Int × Bool := if place H L on = true then spreadL (loads H (L.zip on) H.length) else (0, false)
/-- The host that was chosen among the first k: its number (or -1), what it has left. -/
def chooseTo (H : List Hc) (Z : List (Dem × Int)) (d : Dem) (no : List Int) : Nat → Int × Int
  | 0 => (-1, 0)
  | k + 1 => match H[k]? with
    | some c => if no.any (fun x => decide (x = (k : Int))) = false ∧ admit c.m c.c c.up (gu Z k) d = 0 ∧ ((chooseTo H Z d no k).1 < 0 ∨ (chooseTo H Z d no k).2 < freeM c.m c.c (gu Z k)) then (k, freeM c.m c.c (gu Z k)) else chooseTo H Z d no k
    | none => chooseTo H Z d no k
def pick (s : Int × Int) : Int × Bool := if s.1 < 0 then (0, false) else (s.1, true)
def chooseZ (H : List Hc) (Z : List (Dem × Int)) (d : Dem) (no : List Int) : Int × Bool := pick (chooseTo H Z d no H.length)
def choose (H : List Hc) (L : List Dem) (on : List Int) (d : Dem) (no : List Int) : Int × Bool := if place H L on = true then chooseZ H (L.zip on) d no else (0, false)
/-- The first of the numbers below n at which there is an answer. -/
def first {α : Type} (g : Nat → Option α) : Nat → Option α
  | 0 => none
  | k + 1 => match first g k with | some x => some x | none => g k
/-- May a guest go to a host. -/
def may (H : List Hc) (Z : List (Dem × Int)) (d : Dem) (h : Nat) : Bool := match H[h]? with | some c => decide (admit c.m c.c c.up (gu Z h) d = 0) | none => false
/-- The first placement of all guests that goes on from 'on', 'f' guests being left. -/
def asg (H : List Hc) (L : List Dem) : Nat → List Int → Option (List Int)
  | 0, on => some on
  | f + 1, on => match L[on.length]? with
    | some d => first (fun h => if may H (L.zip on) d h = true then asg H L f (on ++ [(h : Int)]) else none) H.length
    | none => some on
def assign (H : List Hc) (L : List Dem) : Option (List Int) := if H.length < 1 ∨ 6 < H.length ∨ 8 < L.length then none else asg H L L.length []
structure St where
  least : Int
  best : Mv
  found : Bool
def mv0 : Mv := ⟨0, 0, 0⟩
def imp1 (H : List Hc) (L : List Dem) (on : List Int) (g : Nat) (fr : Int) (st : St) (t : Nat) : St :=
  if (t : Int) = fr then st else if (spread H L (on.set g t)).2 = true ∧ (spread H L (on.set g t)).1 < st.least then ⟨(spread H L (on.set g t)).1, ⟨g, fr, t⟩, true⟩ else st
def impIn (H : List Hc) (L : List Dem) (on : List Int) (g : Nat) (fr : Int) (st : St) : Nat → St
  | 0 => st
  | k + 1 => imp1 H L on g fr (impIn H L on g fr st k) k
def impTo (H : List Hc) (L : List Dem) (on : List Int) (least : Int) : Nat → St
  | 0 => ⟨least, mv0, false⟩
  | k + 1 => match on[k]? with | some fr => impIn H L on k fr (impTo H L on least k) H.length | none => impTo H L on least k
/-- The best move. -/
def improve (H : List Hc) (L : List Dem) (on : List Int) : Mv × Bool := if (spread H L on).2 = true then ((impTo H L on (spread H L on).1 on.length).best, (impTo H L on (spread H L on).1 on.length).found) else (mv0, false)
/-- The placement behind a move. -/
def mvd (on : List Int) (m : Mv) : List Int := on.set m.g.toNat m.t
def rb (H : List Hc) (L : List Dem) : Nat → List Int → List Mv × List Int
  | 0, x => ([], x)
  | k + 1, x => if (improve H L x).2 = true then ((improve H L x).1 :: (rb H L k (mvd x (improve H L x).1)).1, (rb H L k (mvd x (improve H L x).1)).2) else ([], x)
def rebalance (H : List Hc) (L : List Dem) (on : List Int) (most : Int) : List Mv × List Int := if place H L on = true then rb H L (min most 10).toNat on else ([], [])
/-- The moves of an evacuation, of the first k guests. -/
def evTo (H : List Hc) (L : List Dem) (on : List Int) (host : Int) : Nat → Option (List Mv × List Int)
  | 0 => some ([], on)
  | k + 1 => match evTo H L on host k with
    | none => none
    | some s => match L[k]?, on[k]? with
      | some d, some x => if x = host then (if (chooseZ H ((L.zip s.2).eraseIdx k) d [host]).2 = true then some (s.1 ++ [⟨k, host, (chooseZ H ((L.zip s.2).eraseIdx k) d [host]).1⟩], s.2.set k (chooseZ H ((L.zip s.2).eraseIdx k) d [host]).1) else none) else some s
      | _, _ => some s
def evacuate (H : List Hc) (L : List Dem) (on : List Int) (host : Int) : Option (List Mv × List Int) := if place H L on = true ∧ 0 ≤ host ∧ host < H.length then evTo H L on host L.length else none
end Go.Proofs.Ytmmjofdienoobaa.Ba
