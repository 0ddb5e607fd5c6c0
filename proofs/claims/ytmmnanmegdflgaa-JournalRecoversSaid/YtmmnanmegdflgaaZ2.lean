/-
  Plain laws, no program in sight: registries and the operations on them (chapter 42).
  Plain laws, no program in sight: the varint encoding of numbers, its reader, and the hash of chapter 1.
  Plain laws, no program in sight: the hash of chapter 1 (FNV-1a, 64 bits) on lists of bytes.
  Plain laws, no program in sight: sealed segments (chapter 19).
  Plain laws, no program in sight: operations encoded and decoded (chapter 42).
-/
import Derived.Test.YtmmnanmegdflgaaZ1
import Derived.Lib.Bytealg
import Derived.Laws.Strings
import Derived.RowKit
import Derived.Laws.BitsAllLaws
namespace Go.Proofs.Ytmmnanmegdflgaa.Ad
set_option linter.unusedVariables false
structure Cap where
  m : Int
  c : Int
  up : Bool
end Go.Proofs.Ytmmnanmegdflgaa.Ad
namespace Go.Proofs.Ytmmnanmegdflgaa.Jn
set_option linter.unusedVariables false
open Ad
/-- A registry: hosts, guests. -/
structure Reg where
  hs : List Cap
  gs : List Pl
/-- An operation: kind, name, two numbers, demand, capacity. -/
structure Man where
  k : Int
  nm : ByteArray
  a : Int
  b : Int
  d : Dem
  c : Cap
/-- All below n. -/
def allN (f : Nat → Bool) : Nat → Bool
  | 0 => true
  | k + 1 => allN f k && f k
theorem allN_iff (f : Nat → Bool) (n : Nat) : allN f n = true ↔ ∀ k, k < n → f k = true := by
  induction n with
  | zero => simp [allN]
  | succ n ih =>
    rw [allN, Bool.and_eq_true, ih]
    constructor
    · rintro ⟨h1, h2⟩ k hk
      by_cases e : k = n
      · subst e; exact h2
      · exact h1 k (by omega)
    · intro h
      exact ⟨fun k hk => h k (by omega), h n (by omega)⟩
theorem allN_no {f : Nat → Bool} {k n : Nat} (hk : k < n) (h : f k = false) : allN f n = false := by
  cases e : allN f n
  · rfl
  · rw [(allN_iff f n).1 e k hk] at h; cases h
theorem allN_step {f : Nat → Bool} {k : Nat} (h1 : allN f k = true) (h2 : f k = true) : allN f (k + 1) = true := by rw [allN, h1, h2]; rfl
/-- The order of names. -/
def lt (x y : ByteArray) : Bool := Op.bytesLess x.toList y.toList
def same (x y : ByteArray) : Bool := x.toList == y.toList
theorem same_iff (x y : ByteArray) : same x y = true ↔ x = y := by
  unfold same
  rw [ByteArray.toList_eq, ByteArray.toList_eq, beq_iff_eq]
  constructor
  · intro h; cases x; cases y; simp at h; subst h; rfl
  · rintro rfl; rfl
def named (s : ByteArray) : Bool := decide (1 ≤ s.size) && decide (s.size ≤ 12)
def okG (n : Nat) (p : Pl) : Bool := named p.nm && (vd p.d && (there n p.a && (there n p.b && decide (p.a ≠ p.b))))
/-- The k-th name lies behind the one before it. -/
def srtAt (L : List Pl) (k : Nat) : Bool := match k, L[k - 1]?, L[k]? with | 0, _, _ => true | _ + 1, some q, some p => lt q.nm p.nm | _, _, _ => true
def gAt (n : Nat) (L : List Pl) (k : Nat) : Bool := (match L[k]? with | some p => okG n p | none => true) && srtAt L k
def vAt (H : List Cap) (i : Nat) : Bool := match H[i]? with | some c => vh c.m c.c | none => true
def fAt (H : List Cap) (L : List Pl) (i : Nat) : Bool := match H[i]? with | some c => !c.up || fits c.m c.c c.up (on L i) | none => true
def few (r : Reg) : Bool := decide (r.hs.length ≤ 6) && decide (r.gs.length ≤ 8)
def okGs (r : Reg) : Bool := allN (gAt r.hs.length r.gs) r.gs.length
def okHs (r : Reg) : Bool := allN (fun i => vAt r.hs i && fAt r.hs r.gs i) r.hs.length
/-- Is a registry valid. -/
def validR (r : Reg) : Bool := few r && (okGs r && okHs r)
theorem okHs_two (r : Reg) : okHs r = (allN (vAt r.hs) r.hs.length && allN (fAt r.hs r.gs) r.hs.length) := by
  cases h : okHs r
  · symm
    rw [Bool.and_eq_false_iff]
    by_cases h1 : allN (vAt r.hs) r.hs.length = true
    · right
      cases h2 : allN (fAt r.hs r.gs) r.hs.length
      · rfl
      · rw [allN_iff] at h1 h2
        have : okHs r = true := (allN_iff _ _).2 fun k hk => by rw [h1 k hk, h2 k hk]; rfl
        rw [this] at h; cases h
    · left; simpa using h1
  · symm
    have h := (allN_iff _ _).1 h
    rw [Bool.and_eq_true, allN_iff, allN_iff]
    exact ⟨fun k hk => (Bool.and_eq_true _ _ ▸ h k hk).1, fun k hk => (Bool.and_eq_true _ _ ▸ h k hk).2⟩
/-- How many guests at the front lie before a name. -/
def pos (L : List Pl) (nm : ByteArray) : Nat := (L.takeWhile fun p => lt p.nm nm).length
def hasG (L : List Pl) (nm : ByteArray) : Bool := match L[pos L nm]? with | some p => same p.nm nm | none => false
def putH (H : List Cap) (a : Int) (c : Cap) : List Cap := if a = H.length then H ++ [c] else H.set a.toNat c
def hostBad (r : Reg) (o : Man) : Bool := decide (o.a < 0) || (decide ((r.hs.length : Int) < o.a) || !vh o.c.m o.c.c)
def setHost (r : Reg) (o : Man) : Reg × Int :=
  if hostBad r o = true then (r, 4200) else if o.a = 6 then (r, 4203)
  else if validR ⟨putH r.hs o.a o.c, r.gs⟩ = true then (⟨putH r.hs o.a o.c, r.gs⟩, 0) else (r, 4200)
def addBad (r : Reg) (o : Man) : Bool := !(named o.nm && (vd o.d && (there r.hs.length o.a && (there r.hs.length o.b && decide (o.a ≠ o.b)))))
/-- Is a guest let in at a host beside others. -/
def admAt (H : List Cap) (L : List Pl) (h : Int) (d : Dem) : Int := match H[h.toNat]? with | some c => admit c.m c.c c.up (on L h) d | none => 0
def insG (L : List Pl) (p : Pl) : List Pl := L.take (pos L p.nm) ++ p :: L.drop (pos L p.nm)
def add (r : Reg) (o : Man) : Reg × Int :=
  if addBad r o = true then (r, 4200) else if hasG r.gs o.nm = true then (r, 4201) else if 8 ≤ r.gs.length then (r, 4203)
  else if admAt r.hs r.gs o.a o.d ≠ 0 then (r, admAt r.hs r.gs o.a o.d) else if admAt r.hs r.gs o.b o.d ≠ 0 then (r, admAt r.hs r.gs o.b o.d)
  else (⟨r.hs, insG r.gs ⟨o.nm, o.d, o.a, o.b⟩⟩, 0)
def remove (r : Reg) (o : Man) : Reg × Int := if hasG r.gs o.nm = true then (⟨r.hs, r.gs.eraseIdx (pos r.gs o.nm)⟩, 0) else (r, 4202)
/-- The side a of a guest. -/
def side (p : Pl) (a : Int) : Int := if a = 0 then p.a else p.b
def turn (p : Pl) (a h : Int) : Pl := if a = 0 then { p with a := h } else { p with b := h }
def moveBad (r : Reg) (o : Man) (p : Pl) : Bool := !((decide (o.a = 0) || decide (o.a = 1)) && (there r.hs.length o.b && decide (side p (1 - o.a) ≠ o.b)))
def move (r : Reg) (o : Man) : Reg × Int :=
  if hasG r.gs o.nm = true then
    match r.gs[pos r.gs o.nm]? with
    | some p => if moveBad r o p = true then (r, 4200) else if admAt r.hs (r.gs.eraseIdx (pos r.gs o.nm)) o.b p.d ≠ 0 then (r, admAt r.hs (r.gs.eraseIdx (pos r.gs o.nm)) o.b p.d)
      else (⟨r.hs, r.gs.set (pos r.gs o.nm) (turn p o.a o.b)⟩, 0)
    | none => (r, 4202)
  else (r, 4202)
def apply (r : Reg) (o : Man) : Reg × Int :=
  if validR r = true then (if o.k = 4 then setHost r o else if o.k = 1 then add r o else if o.k = 2 then remove r o else if o.k = 3 then move r o else (r, 4200)) else (r, 4200)
theorem apply_err {r : Reg} {o : Man} (h : (apply r o).2 ≠ 0) : (apply r o).1 = r := by
  revert h
  unfold apply
  split
  · split
    · unfold setHost
      split
      · intro _; rfl
      · split
        · intro _; rfl
        · split
          · intro h; exact absurd rfl h
          · intro _; rfl
    · split
      · unfold add
        repeat' split
        all_goals first | (intro _; rfl) | (intro h; exact absurd rfl h)
      · split
        · unfold remove
          split
          · intro h; exact absurd rfl h
          · intro _; rfl
        · split
          · unfold move
            repeat' split
            all_goals first | (intro _; rfl) | (intro h; exact absurd rfl h)
          · intro _; rfl
  · intro _; rfl
/-- Names in ascending order: no two alike; the place of a name. -/
theorem lt_irr (x : ByteArray) : lt x x = false := by
  unfold lt
  generalize x.toList = l
  induction l with
  | nil => rfl
  | cons a l ih => simp [Op.bytesLess, ih]
theorem bl_trans : ∀ x y z : List UInt8, Op.bytesLess x y = true → Op.bytesLess y z = true → Op.bytesLess x z = true
  | _, [], z, h, _ => by cases ‹List UInt8› <;> simp [Op.bytesLess] at h
  | _, _ :: _, [], _, h => by simp [Op.bytesLess] at h
  | [], b :: y, c :: z, _, _ => by simp [Op.bytesLess]
  | a :: x, b :: y, c :: z, h1, h2 => by
    simp only [Op.bytesLess, Bool.or_eq_true, decide_eq_true_eq, Bool.and_eq_true, beq_iff_eq] at *
    rcases h1 with h1 | ⟨rfl, h1⟩
    · rcases h2 with h2 | ⟨rfl, h2⟩
      · exact .inl (UInt8.lt_trans h1 h2)
      · exact .inl h1
    · rcases h2 with h2 | ⟨rfl, h2⟩
      · exact .inl h2
      · exact .inr ⟨rfl, bl_trans x y z h1 h2⟩
theorem lt_trans {x y z : ByteArray} (h1 : lt x y = true) (h2 : lt y z = true) : lt x z = true := bl_trans _ _ _ h1 h2
theorem bl_tri : ∀ x y : List UInt8, Op.bytesLess x y = true ∨ x = y ∨ Op.bytesLess y x = true
  | [], [] => .inr (.inl rfl)
  | [], _ :: _ => .inl rfl
  | _ :: _, [] => .inr (.inr rfl)
  | a :: x, b :: y => by
    simp only [Op.bytesLess, Bool.or_eq_true, decide_eq_true_eq, Bool.and_eq_true, beq_iff_eq, List.cons.injEq]
    rcases bl_tri x y with h | h | h
    · by_cases e : a = b
      · exact .inl (.inr ⟨e, h⟩)
      · rcases Nat.lt_or_gt_of_ne (fun h => e (UInt8.toNat_inj.1 h) : a.toNat ≠ b.toNat) with h2 | h2
        · exact .inl (.inl (UInt8.lt_iff_toNat_lt.2 h2))
        · exact .inr (.inr (.inl (UInt8.lt_iff_toNat_lt.2 h2)))
    · by_cases e : a = b
      · exact .inr (.inl ⟨e, h⟩)
      · rcases Nat.lt_or_gt_of_ne (fun h => e (UInt8.toNat_inj.1 h) : a.toNat ≠ b.toNat) with h2 | h2
        · exact .inl (.inl (UInt8.lt_iff_toNat_lt.2 h2))
        · exact .inr (.inr (.inl (UInt8.lt_iff_toNat_lt.2 h2)))
    · by_cases e : a = b
      · exact .inr (.inr (.inr ⟨e.symm, h⟩))
      · rcases Nat.lt_or_gt_of_ne (fun h => e (UInt8.toNat_inj.1 h) : a.toNat ≠ b.toNat) with h2 | h2
        · exact .inl (.inl (UInt8.lt_iff_toNat_lt.2 h2))
        · exact .inr (.inr (.inl (UInt8.lt_iff_toNat_lt.2 h2)))
theorem lt_tri (x y : ByteArray) : lt x y = true ∨ x = y ∨ lt y x = true := by
  rcases bl_tri x.toList y.toList with h | h | h
  · exact .inl h
  · exact .inr (.inl ((same_iff x y).1 (by unfold same; rw [h]; simp)))
  · exact .inr (.inr h)
theorem lt_asym {x y : ByteArray} (h : lt x y = true) : lt y x = false := by
  cases h2 : lt y x
  · rfl
  · have := lt_trans h h2
    rw [lt_irr] at this; cases this
/-- The guests are sorted. -/
def Srt (L : List Pl) : Prop := L.Pairwise fun p q => lt p.nm q.nm = true
theorem srt_of {n : Nat} {L : List Pl} (h : allN (gAt n L) L.length = true) : Srt L := by
  have hadj : ∀ k (hk : k + 1 < L.length), lt L[k].nm L[k + 1].nm = true := by
    intro k hk
    have := (allN_iff _ _).1 h (k + 1) hk
    unfold gAt srtAt at this
    rw [Bool.and_eq_true] at this
    have h2 := this.2
    rw [Nat.add_sub_cancel, List.getElem?_eq_getElem (show k < L.length by omega), List.getElem?_eq_getElem hk] at h2
    exact h2
  have hall : ∀ d i (hi : i + d + 1 < L.length), lt L[i].nm L[i + d + 1].nm = true := by
    intro d
    induction d with
    | zero => intro i hi; exact hadj i hi
    | succ d ih => intro i hi; exact lt_trans (ih i (by omega)) (hadj (i + d + 1) (by omega))
  unfold Srt
  rw [List.pairwise_iff_getElem]
  intro i j hi hj hij
  have := hall (j - i - 1) i (by omega)
  have e : i + (j - i - 1) + 1 = j := by omega
  simp only [e] at this
  exact this
theorem tw_mem {α : Type} (f : α → Bool) : ∀ (l : List α) (x : α), x ∈ l.takeWhile f → f x = true
  | [], _, h => by simp at h
  | a :: l, x, h => by
    rw [List.takeWhile_cons] at h
    split at h
    · rcases List.mem_cons.1 h with rfl | h
      · assumption
      · exact tw_mem f l x h
    · simp at h
theorem pos_le (L : List Pl) (nm : ByteArray) : pos L nm ≤ L.length := by unfold pos; exact (List.takeWhile_sublist _).length_le
theorem pos_below {L : List Pl} {nm : ByteArray} {k : Nat} (hk : k < pos L nm) (hl : k < L.length) : lt L[k].nm nm = true := by
  have h1 : (L.takeWhile fun p => lt p.nm nm)[k]'hk = L[k] := by
    have := List.takeWhile_prefix (l := L) (fun p => lt p.nm nm)
    exact this.getElem hk
  have h2 := List.getElem_mem (l := L.takeWhile fun p => lt p.nm nm) hk
  rw [h1] at h2
  exact tw_mem (fun p : Pl => lt p.nm nm) _ _ h2
theorem pos_here {L : List Pl} {nm : ByteArray} (hl : pos L nm < L.length) : lt L[pos L nm].nm nm = false := by
  induction L with
  | nil => exact absurd hl (Nat.not_lt_zero _)
  | cons p L ih =>
    by_cases hp : lt p.nm nm = true
    · have e : pos (p :: L) nm = pos L nm + 1 := by unfold pos; rw [List.takeWhile_cons, if_pos hp, List.length_cons]
      simp only [e] at hl ⊢
      exact ih (by simpa using hl)
    · have e : pos (p :: L) nm = 0 := by unfold pos; rw [List.takeWhile_cons, if_neg hp]; rfl
      simp only [e]
      simpa using hp
theorem pos_above {L : List Pl} (hs : Srt L) {nm : ByteArray} {k : Nat} (hk : pos L nm ≤ k) (hl : k < L.length) : lt L[k].nm nm = false := by
  by_cases e : k = pos L nm
  · subst e; exact pos_here hl
  · have h1 := pos_here (L := L) (nm := nm) (by omega)
    have h2 := List.pairwise_iff_getElem.1 hs (pos L nm) k (by omega) hl (by omega)
    cases h3 : lt L[k].nm nm
    · rfl
    · rw [lt_trans h2 h3] at h1; cases h1
theorem pos_is {L : List Pl} (hs : Srt L) {nm : ByteArray} {i : Nat} (hi : i ≤ L.length) (h1 : ∀ k (hk : k < L.length), k < i → lt L[k].nm nm = true) (h2 : ∀ k (hk : k < L.length), i ≤ k → lt L[k].nm nm = false) : i = pos L nm := by
  rcases Nat.lt_trichotomy i (pos L nm) with h | h | h
  · have := pos_le L nm
    have h3 := pos_below h (by omega)
    rw [h2 i (by omega) (Nat.le_refl _)] at h3; cases h3
  · exact h
  · have h3 := pos_here (L := L) (nm := nm) (by omega)
    rw [h1 _ (by omega) h] at h3; cases h3
/-- Where a name that is there stands. -/
theorem has_at {L : List Pl} {nm : ByteArray} (h : hasG L nm = true) : ∃ p, L[pos L nm]? = some p ∧ p.nm = nm ∧ pos L nm < L.length := by
  unfold hasG at h
  cases e : L[pos L nm]? with
  | none => rw [e] at h; cases h
  | some p =>
    rw [e] at h
    exact ⟨p, rfl, (same_iff _ _).1 h, (List.getElem?_eq_some_iff.1 e).1⟩
theorem has_no {L : List Pl} (hs : Srt L) {nm : ByteArray} (h : hasG L nm = false) : ∀ k (hk : k < L.length), same L[k].nm nm = false := by
  intro k hk
  cases e : same L[k].nm nm
  · rfl
  · have e := (same_iff _ _).1 e
    exfalso
    rcases Nat.lt_trichotomy k (pos L nm) with h1 | h1 | h1
    · have := pos_below h1 hk
      rw [e, lt_irr] at this; cases this
    · unfold hasG at h
      rw [← h1, List.getElem?_eq_getElem hk] at h
      simp only at h
      rw [(same_iff _ _).2 e] at h; cases h
    · have h3 := pos_here (L := L) (nm := nm) (by omega)
      have h4 := List.pairwise_iff_getElem.1 hs (pos L nm) k (by omega) hk h1
      rw [e, h3] at h4; cases h4
theorem has_only {L : List Pl} (hs : Srt L) {nm : ByteArray} {k : Nat} (hk : k < L.length) (h : same L[k].nm nm = true) : hasG L nm = true ∧ k = pos L nm := by
  have e := (same_iff _ _).1 h
  have hp : k = pos L nm := by
    rcases Nat.lt_trichotomy k (pos L nm) with h1 | h1 | h1
    · have := pos_below h1 hk
      rw [e, lt_irr] at this; cases this
    · exact h1
    · have h3 := pos_here (L := L) (nm := nm) (by omega)
      have h4 := List.pairwise_iff_getElem.1 hs (pos L nm) k (by omega) hk h1
      rw [e, h3] at h4; cases h4
  refine ⟨?_, hp⟩
  unfold hasG
  rw [← hp, List.getElem?_eq_getElem hk]
  exact h
/-- How the library compares names. -/
theorem cmp_lt : ∀ x y : List UInt8, decide (Lib.compareBytes x y < 0) = Op.bytesLess x y
  | [], [] => rfl
  | [], _ :: _ => rfl
  | _ :: _, [] => rfl
  | a :: x, b :: y => by
    unfold Lib.compareBytes Op.bytesLess
    by_cases h1 : a < b
    · simp [h1]
    · by_cases h2 : b < a
      · have : a ≠ b := by rintro rfl; exact h1 h2
        simp [h1, h2, this]
      · have : a = b := UInt8.toNat_inj.1 (by rw [UInt8.lt_iff_toNat_lt] at h1 h2; omega)
        subst this
        simp [h1, cmp_lt x y]
theorem cmp_eq : ∀ x y : List UInt8, (Lib.compareBytes x y = 0) ↔ x = y
  | [], [] => by simp [Lib.compareBytes]
  | [], _ :: _ => by simp [Lib.compareBytes]
  | _ :: _, [] => by simp [Lib.compareBytes]
  | a :: x, b :: y => by
    unfold Lib.compareBytes
    by_cases h1 : a < b
    · have : a ≠ b := by rintro rfl; exact absurd h1 (UInt8.lt_irrefl _)
      simp [h1, this]
    · by_cases h2 : b < a
      · have : a ≠ b := by rintro rfl; exact h1 h2
        simp [h1, h2, this]
      · have : a = b := UInt8.toNat_inj.1 (by rw [UInt8.lt_iff_toNat_lt] at h1 h2; omega)
        subst this
        simp [h1, cmp_eq x y]
end Go.Proofs.Ytmmnanmegdflgaa.Jn

set_option linter.unusedVariables false
namespace Go.Proofs.Ytmmnanmegdflgaa.Uv

/-- The encoding with fuel. -/
def putF : Nat → Nat → List UInt8
  | 0, x => [UInt8.ofNat x]
  | f + 1, x => if 128 ≤ x then UInt8.ofNat (x % 128 + 128) :: putF f (x / 128) else [UInt8.ofNat x]
/-- The encoding of a number below 2^64. -/
def put (x : Nat) : List UInt8 := putF 10 x

/-- The reader: i bytes are read, x is gathered. -/
def rd (i x : Nat) : List UInt8 → Option (Nat × Nat)
  | [] => none
  | b :: t => if 10 ≤ i then none else if i = 9 ∧ 1 < b.toNat then none
    else if 128 ≤ b.toNat then rd (i + 1) (x + (b.toNat - 128) * 128 ^ i) t
    else if b.toNat = 0 ∧ 0 < i then none else some (x + b.toNat * 128 ^ i, i + 1)

theorem putF_len : ∀ f x, (putF f x).length ≤ f + 1
  | 0, x => by simp [putF]
  | f + 1, x => by
    unfold putF; split
    · simp; exact putF_len f _
    · simp
theorem putF_len_bits : ∀ f k x, x < 128 ^ k → 1 ≤ k → k ≤ f + 1 → (putF f x).length ≤ k
  | 0, k, x, h, h1, _ => by simp [putF]; omega
  | f + 1, k, x, h, h1, h2 => by
    unfold putF; split
    · rename_i hx
      match k, h1 with
      | 1, _ => simp at h; omega
      | k + 2, _ =>
        simp only [List.length_cons]
        have := putF_len_bits f (k + 1) (x / 128) (by rw [Nat.pow_succ] at h; exact Nat.div_lt_of_lt_mul (by rw [Nat.mul_comm]; exact h)) (by omega) (by omega)
        omega
    · simp; omega
theorem pow10 : (128 : Nat) ^ 10 = 1180591620717411303424 := by decide
theorem put_len (x : Nat) (h : x < 18446744073709551616) : (put x).length ≤ 10 :=
  putF_len_bits 10 10 x (by rw [pow10]; omega) (by omega) (by omega)
theorem putF_pos : ∀ f x, 1 ≤ (putF f x).length
  | 0, x => by simp [putF]
  | f + 1, x => by unfold putF; split <;> simp
theorem put_pos (x : Nat) : 1 ≤ (put x).length := putF_pos _ _

theorem ofNat_toNat {n : Nat} (h : n < 256) : (UInt8.ofNat n).toNat = n := by
  simp [UInt8.toNat_ofNat']; omega

/-- Fuel beyond need changes nothing. -/
theorem putF_fuel : ∀ f g k x, x < 128 ^ k → 1 ≤ k → k ≤ f + 1 → k ≤ g + 1 → putF f x = putF g x
  | 0, 0, _, _, _, _, _, _ => rfl
  | 0, g + 1, k, x, h, h1, h2, _ => by
    obtain rfl : k = 1 := by omega
    simp at h
    simp [putF]; omega
  | f + 1, 0, k, x, h, h1, _, h2 => by
    obtain rfl : k = 1 := by omega
    simp at h
    simp [putF]; omega
  | f + 1, g + 1, k, x, h, h1, h2, h3 => by
    unfold putF
    split
    · rename_i hx
      match k, h1 with
      | 1, _ => simp at h; omega
      | k + 2, _ =>
        rw [putF_fuel f g (k + 1) (x / 128) (by rw [Nat.pow_succ] at h; exact Nat.div_lt_of_lt_mul (by rw [Nat.mul_comm]; exact h)) (by omega) (by omega) (by omega)]
    · rfl
/-- The step of the encoding. -/
theorem put_step (x : Nat) (h : x < 18446744073709551616) (hx : 128 ≤ x) : put x = UInt8.ofNat (x % 128 + 128) :: put (x / 128) := by
  have e : putF 9 (x / 128) = putF 10 (x / 128) := putF_fuel 9 10 10 (x / 128) (by rw [pow10]; omega) (by omega) (by omega) (by omega)
  unfold put
  rw [← e]
  show putF (9 + 1) x = _
  rw [putF, if_pos hx]
theorem put_small (x : Nat) (hx : x < 128) : put x = [UInt8.ofNat x] := by
  unfold put; show putF (9 + 1) x = _; rw [putF, if_neg (by omega)]

theorem pow_split (i : Nat) (x : Nat) : x % 128 * 128 ^ i + x / 128 * 128 ^ (i + 1) = x * 128 ^ i := by
  rw [Nat.pow_succ, Nat.mul_comm (128 ^ i) 128, ← Nat.mul_assoc, ← Nat.add_mul]
  congr 1; omega

/-- What is written is read, whatever follows it. -/
theorem rd_putF : ∀ f i x a t, i + f = 9 → (x * 128 ^ i < 18446744073709551616) → (x = 0 → i = 0) → rd i a (putF f x ++ t) = some (a + x * 128 ^ i, i + (putF f x).length)
  | 0, i, x, a, t, hi, hx, h0 => by
    obtain rfl : i = 9 := by omega
    have h9 : (128 : Nat) ^ 9 = 9223372036854775808 := by decide
    rw [h9] at hx
    have hxs : x ≤ 1 := by omega
    simp only [putF, List.cons_append, List.nil_append, rd, List.length_cons, List.length_nil]
    rw [ofNat_toNat (by omega), if_neg (by omega), if_neg (by omega), if_neg (by omega), if_neg (by omega)]
  | f + 1, i, x, a, t, hi, hx, h0 => by
    unfold putF
    split
    · rename_i h128
      simp only [List.cons_append, rd, List.length_cons]
      rw [ofNat_toNat (by omega), if_neg (by omega), if_neg (by omega), if_pos (by omega)]
      rw [rd_putF f (i + 1) (x / 128) _ t (by omega) (by have := pow_split i x; omega) (by omega)]
      have e : x % 128 + 128 - 128 = x % 128 := by omega
      rw [e, Nat.add_assoc a, pow_split i x]
      exact congrArg some (Prod.ext rfl (by show i + 1 + (putF f (x / 128)).length = i + ((putF f (x / 128)).length + 1); omega))
    · simp only [List.cons_append, List.nil_append, rd, List.length_cons, List.length_nil]
      rw [ofNat_toNat (by omega), if_neg (by omega), if_neg (by omega), if_neg (by omega), if_neg (by omega)]

theorem putF_9_10 (x : Nat) (h : x < 18446744073709551616) : putF 9 x = put x :=
  putF_fuel 9 10 10 x (by rw [pow10]; omega) (by omega) (by omega) (by omega)
theorem rd_put (x : Nat) (h : x < 18446744073709551616) (t : List UInt8) : rd 0 0 (put x ++ t) = some (x, (put x).length) := by
  rw [← putF_9_10 x h, rd_putF 9 0 x 0 t (by omega) (by simpa using h) (by simp)]
  simp

/-- What is read is written. -/
theorem putF_rd : ∀ f i a (s : List UInt8) v n, i + f = 9 → rd i a s = some (v, n) →
    ∃ x, v = a + x * 128 ^ i ∧ x * 128 ^ i < 18446744073709551616 ∧ i < n ∧ n - i ≤ s.length ∧ putF f x = s.take (n - i) ∧ (x = 0 → i = 0)
  | f, i, a, [], v, n, hi, h => by simp [rd] at h
  | f, i, a, b :: t, v, n, hi, h => by
    have hb := b.toNat_lt
    simp only [rd] at h
    rw [if_neg (by omega)] at h
    split at h
    · simp at h
    · rename_i h9
      split at h
      · rename_i h128
        match f with
        | 0 => omega
        | f + 1 =>
          obtain ⟨x, hv, hlt, hin, hnl, hp, hz⟩ := putF_rd f (i + 1) _ t v n (by omega) h
          refine ⟨(b.toNat - 128) + x * 128, ?_, ?_, by omega, by simp; omega, ?_, by omega⟩
          · rw [hv, Nat.add_mul, Nat.add_assoc, Nat.pow_succ, Nat.mul_comm (128 ^ i) 128, Nat.mul_assoc]
          · have hp0 : 0 < 128 ^ i := Nat.pow_pos (by omega)
            have e : ((b.toNat - 128) + x * 128) * 128 ^ i = (b.toNat - 128) * 128 ^ i + x * 128 ^ (i + 1) := by
              rw [Nat.add_mul, Nat.pow_succ, Nat.mul_comm (128 ^ i) 128, Nat.mul_assoc]
            rw [e]
            have h1 : (b.toNat - 128) * 128 ^ i ≤ 127 * 128 ^ i := Nat.mul_le_mul_right _ (by omega)
            -- x * 128^(i+1) is a multiple of 128^(i+1), below 2^64 = 2 * 128^9
            have hi8 : i ≤ 8 := by omega
            obtain ⟨d, hd⟩ : ∃ d, 9 = (i + 1) + d := ⟨8 - i, by omega⟩
            have e9 : (18446744073709551616 : Nat) = (2 * 128 ^ d) * 128 ^ (i + 1) := by
              rw [Nat.mul_assoc, ← Nat.pow_add, Nat.add_comm d (i + 1), ← hd]
            rw [e9] at hlt ⊢
            have hx1 : x + 1 ≤ 2 * 128 ^ d := Nat.lt_of_mul_lt_mul_right hlt
            have h2 : (x + 1) * 128 ^ (i + 1) ≤ (2 * 128 ^ d) * 128 ^ (i + 1) := Nat.mul_le_mul_right _ hx1
            rw [Nat.add_mul, Nat.one_mul] at h2
            have h3 : 128 ^ (i + 1) = 128 * 128 ^ i := by rw [Nat.pow_succ, Nat.mul_comm]
            omega
          · have e : n - i = (n - (i + 1)) + 1 := by omega
            rw [e, List.take_succ_cons, ← hp]
            have hx0 : 1 ≤ x := by
              rcases Nat.eq_zero_or_pos x with h | h
              · exact absurd (hz h) (by omega)
              · exact h
            rw [putF, if_pos (by omega)]
            congr 1
            · apply UInt8.toNat_inj.1; rw [ofNat_toNat (by omega)]; omega
            · congr 1; omega
      · rename_i h128
        split at h
        · simp at h
        · rename_i h0
          simp only [Option.some.injEq, Prod.mk.injEq] at h
          obtain ⟨rfl, rfl⟩ := h
          refine ⟨b.toNat, rfl, ?_, by omega, by simp, ?_, by omega⟩
          · by_cases h9' : i = 9
            · subst h9'
              have : b.toNat ≤ 1 := by omega
              have h9 : (128 : Nat) ^ 9 = 9223372036854775808 := by decide
              rw [h9]; omega
            · obtain ⟨d, hd⟩ : ∃ d, 9 = (i + 1) + d := ⟨8 - i, by omega⟩
              have e9 : (18446744073709551616 : Nat) = (2 * 128 ^ d * 128) * 128 ^ i := by
                rw [Nat.mul_assoc, Nat.mul_assoc, Nat.mul_comm 128 (128 ^ i), ← Nat.pow_succ, ← Nat.pow_add, Nat.add_comm d, ← hd]
              rw [e9]
              have hd0 : 1 ≤ 128 ^ d := Nat.pow_pos (by omega)
              exact Nat.mul_lt_mul_of_pos_right (by omega) (Nat.pow_pos (by omega))
          · have e : i + 1 - i = 1 := by omega
            rw [e]
            simp only [List.take_succ_cons, List.take_zero]
            match f with
            | 0 => simp [putF]
            | f + 1 => rw [putF, if_neg (by omega)]; simp

theorem put_rd {s : List UInt8} {v n : Nat} (h : rd 0 0 s = some (v, n)) : v < 18446744073709551616 ∧ 1 ≤ n ∧ n ≤ s.length ∧ put v = s.take n := by
  obtain ⟨x, hv, hlt, hin, hnl, hp, _⟩ := putF_rd 9 0 0 s v n (by omega) h
  simp at hv hlt hnl hp
  subst hv
  exact ⟨hlt, by omega, hnl, by rw [← putF_9_10 v hlt, hp]⟩
/-- The three results of the reader. -/
def uvX (l : List UInt8) : Nat := match rd 0 0 l with | some (v, _) => v | none => 0
def uvN (l : List UInt8) : Nat := match rd 0 0 l with | some (_, n) => n | none => 0
def uvB (l : List UInt8) : Bool := match rd 0 0 l with | some _ => true | none => false
theorem uv_none {l : List UInt8} (h : rd 0 0 l = none) : uvX l = 0 ∧ uvN l = 0 ∧ uvB l = false := by simp [uvX, uvN, uvB, h]
theorem uv_some {l : List UInt8} {v n : Nat} (h : rd 0 0 l = some (v, n)) : uvX l = v ∧ uvN l = n ∧ uvB l = true := by simp [uvX, uvN, uvB, h]
theorem uvX_lt (l : List UInt8) : uvX l < 18446744073709551616 := by
  unfold uvX; split
  · rename_i v n h; exact (put_rd h).1
  · omega
theorem uvN_le (l : List UInt8) : uvN l ≤ l.length := by
  unfold uvN; split
  · rename_i v n h; exact (put_rd h).2.2.1
  · omega
theorem uvN_pos (l : List UInt8) (h : uvB l = true) : 1 ≤ uvN l := by
  unfold uvB at h; unfold uvN; split
  · rename_i v n h; exact (put_rd h).2.1
  · rename_i e; simp [e] at h
/-- The steps of the reader. -/
theorem rd_nil (i x : Nat) : rd i x [] = none := rfl
theorem rd_ten (x : Nat) (l : List UInt8) : rd 10 x l = none := by cases l <;> simp [rd]
theorem rd_nine {b : UInt8} (x : Nat) (t : List UInt8) (h : 1 < b.toNat) : rd 9 x (b :: t) = none := by simp [rd, h]
theorem rd_nine' {b : UInt8} {i : Nat} (x : Nat) (t : List UInt8) (hi : i = 9) (h : 1 < b.toNat) : rd i x (b :: t) = none := by subst hi; exact rd_nine x t h
theorem rd_more {b : UInt8} (i x : Nat) (t : List UInt8) (hi : i < 10) (h9 : ¬ (i = 9 ∧ 1 < b.toNat)) (h : 128 ≤ b.toNat) : rd i x (b :: t) = rd (i + 1) (x + b.toNat % 128 * 128 ^ i) t := by
  rw [rd, if_neg (by omega), if_neg h9, if_pos h, show b.toNat - 128 = b.toNat % 128 by have := b.toNat_lt; omega]
theorem rd_zero {b : UInt8} (i x : Nat) (t : List UInt8) (hi : i < 10) (h9 : ¬ (i = 9 ∧ 1 < b.toNat)) (h : b.toNat = 0) (h0 : 0 < i) : rd i x (b :: t) = none := by
  rw [rd, if_neg (by omega), if_neg h9, if_neg (by omega), if_pos ⟨h, h0⟩]
theorem rd_last {b : UInt8} (i x : Nat) (t : List UInt8) (hi : i < 10) (h9 : ¬ (i = 9 ∧ 1 < b.toNat)) (h : b.toNat < 128) (h0 : ¬ (b.toNat = 0 ∧ 0 < i)) : rd i x (b :: t) = some (x + b.toNat % 128 * 128 ^ i, i + 1) := by
  rw [rd, if_neg (by omega), if_neg h9, if_neg (by omega), if_neg h0, Nat.mod_eq_of_lt h]
/-- A group joined to what was read before. -/
theorem join_lt {x c i : Nat} (hx : x < 128 ^ i) (hc : c < 128) : x + c * 128 ^ i < 128 ^ (i + 1) := by
  rw [Nat.pow_succ, Nat.mul_comm (128 ^ i)]
  have : c * 128 ^ i ≤ 127 * 128 ^ i := Nat.mul_le_mul_right _ (by omega)
  omega
theorem p7 (i : Nat) : 2 ^ (7 * i) = 128 ^ i := by rw [Nat.pow_mul]
theorem small_group {c i : Nat} (hi : i < 10) (hc : c < 128) (h9 : i = 9 → c ≤ 1) : c * 128 ^ i < 18446744073709551616 := by
  by_cases h : i = 9
  · subst h
    have h9' : (128 : Nat) ^ 9 = 9223372036854775808 := by decide
    rw [h9']; have := h9 rfl; omega
  · have h1 : c * 128 ^ i ≤ 127 * 128 ^ 8 := Nat.mul_le_mul (by omega) (Nat.pow_le_pow_right (by omega) (by omega))
    have h8 : (128 : Nat) ^ 8 = 72057594037927936 := by decide
    rw [h8] at h1; omega
theorem acc_lt {x i : Nat} (hi : i ≤ 9) (hx : x < 128 ^ i) : x < 18446744073709551616 := by
  have h1 : 128 ^ i ≤ 128 ^ 9 := Nat.pow_le_pow_right (by omega) hi
  have h9' : (128 : Nat) ^ 9 = 9223372036854775808 := by decide
  rw [h9'] at h1; omega
/-- Or is plus. -/
theorem join {x c i : Nat} (hx : x < 128 ^ i) (hi : i < 10) (hc : c < 128) (h9 : i = 9 → c ≤ 1) : x ||| (c * 2 ^ (7 * i) % 18446744073709551616) = x + c * 128 ^ i := by
  rw [p7, Nat.mod_eq_of_lt (small_group hi hc h9), Nat.or_comm, ← p7]
  rw [nat_join (7 * i) _ _ (Nat.mul_mod_left _ _) (by rw [p7]; exact hx), Nat.add_comm]
end Go.Proofs.Ytmmnanmegdflgaa.Uv

set_option linter.unusedVariables false
namespace Go.Proofs.Ytmmnanmegdflgaa.Hs
/-- One byte. -/
def step (h : Nat) (c : UInt8) : Nat := (h ^^^ c.toNat) * 1099511628211 % 18446744073709551616
/-- A list of bytes. -/
def hash (h : Nat) (l : List UInt8) : Nat := l.foldl step h

theorem step_lt (h : Nat) (c : UInt8) : step h c < 18446744073709551616 := Nat.mod_lt _ (by omega)
theorem hash_lt (h : Nat) (l : List UInt8) (hh : h < 18446744073709551616) : hash h l < 18446744073709551616 := by
  unfold hash
  induction l generalizing h with
  | nil => exact hh
  | cons c l ih => exact ih _ (step_lt _ _)
theorem hash_append (h : Nat) (a b : List UInt8) : hash h (a ++ b) = hash (hash h a) b := List.foldl_append
theorem hash_cons (h : Nat) (c : UInt8) (b : List UInt8) : hash h (c :: b) = hash (step h c) b := rfl
theorem hash_nil (h : Nat) : hash h [] = h := rfl
theorem hash_snoc (h : Nat) (a : List UInt8) (c : UInt8) : hash h (a ++ [c]) = step (hash h a) c := by rw [hash_append, hash_cons, hash_nil]

theorem mul_inv_any {a p i k M : Nat} (hp : p * i = 1 + k * M) (ha : a < M) : a * p % M * i % M = a := by
  rw [Nat.mod_mul_mod, Nat.mul_assoc, hp, Nat.mul_add, Nat.mul_one, ← Nat.mul_assoc, Nat.add_mul_mod_self_right, Nat.mod_eq_of_lt ha]
theorem mul_inv {a : Nat} (ha : a < 18446744073709551616) : a * 1099511628211 % 18446744073709551616 * 14886173955864302971 % 18446744073709551616 = a :=
  mul_inv_any (k := 887285111055) (Nat.eq_of_beq_eq_true rfl) ha
theorem xor_lt {h : Nat} (hh : h < 18446744073709551616) (c : UInt8) : h ^^^ c.toNat < 18446744073709551616 :=
  Nat.xor_lt_two_pow (n := 64) hh (by have := c.toNat_lt; omega)
theorem step_inj {h h' : Nat} {c c' : UInt8} (hh : h < 18446744073709551616) (hh' : h' < 18446744073709551616) (e : step h c = step h' c') : h ^^^ c.toNat = h' ^^^ c'.toNat := by
  have := congrArg (fun x => x * 14886173955864302971 % 18446744073709551616) e
  simp only [step] at this
  rwa [mul_inv (xor_lt hh c), mul_inv (xor_lt hh' c')] at this
theorem xor_cancel_right {a b c : Nat} (h : a ^^^ c = b ^^^ c) : a = b := by
  have := congrArg (· ^^^ c) h
  simpa [Nat.xor_assoc] using this
theorem xor_cancel_left {a b c : Nat} (h : c ^^^ a = c ^^^ b) : a = b := by
  rw [Nat.xor_comm c a, Nat.xor_comm c b] at h; exact xor_cancel_right h
/-- Different hashes stay different behind the same bytes. -/
theorem hash_inj {h h' : Nat} (l : List UInt8) (hh : h < 18446744073709551616) (hh' : h' < 18446744073709551616) (e : hash h l = hash h' l) : h = h' := by
  unfold hash at e
  induction l generalizing h h' with
  | nil => exact e
  | cons c l ih => exact xor_cancel_right (step_inj hh hh' (ih (step_lt _ _) (step_lt _ _) e))
/-- Two strings that differ in one byte have different hashes. -/
theorem hash_differs {h : Nat} (a b : List UInt8) {c c' : UInt8} (hh : h < 18446744073709551616) (hc : c ≠ c') : hash h (a ++ c :: b) ≠ hash h (a ++ c' :: b) := by
  intro e
  rw [hash_append, hash_append] at e
  have e2 : step (hash h a) c = step (hash h a) c' := hash_inj b (step_lt _ _) (step_lt _ _) e
  have := xor_cancel_left (step_inj (hash_lt _ _ hh) (hash_lt _ _ hh) e2)
  exact hc (UInt8.toNat_inj.1 this)
/-- The same of a list and the list with one byte set. -/
theorem hash_set {h : Nat} (l : List UInt8) (k : Nat) (hk : k < l.length) (c : UInt8) (hh : h < 18446744073709551616) (hc : l[k] ≠ c) : hash h l ≠ hash h (l.set k c) := by
  have e1 : l = l.take k ++ l[k] :: l.drop (k + 1) := by simp
  have e2 : l.set k c = l.take k ++ c :: l.drop (k + 1) := by rw [List.set_eq_take_append_cons_drop, if_pos hk]
  rw [e2]
  intro e
  exact hash_differs (l.take k) (l.drop (k + 1)) hh hc (by rw [← e1]; exact e)
end Go.Proofs.Ytmmnanmegdflgaa.Hs

namespace Go.Proofs.Ytmmnanmegdflgaa.Lg
set_option linter.unusedVariables false
open Uv
/-- The start of the hash. -/
def HS : Nat := 14695981039346656037
/-- Eight bytes, the most significant one first. -/
def be8 (x : Nat) : List UInt8 := (List.range 8).map fun i => UInt8.ofNat (x / 256 ^ (7 - i) % 256)
theorem be8_len (x : Nat) : (be8 x).length = 8 := by simp [be8]
theorem be8_inj {x y : Nat} (hx : x < 18446744073709551616) (hy : y < 18446744073709551616) (h : be8 x = be8 y) : x = y := by
  have g : ∀ i, i < 8 → x / 256 ^ (7 - i) % 256 = y / 256 ^ (7 - i) % 256 := by
    intro i hi
    have h1 : (be8 x)[i]? = (be8 y)[i]? := by rw [h]
    unfold be8 at h1
    rw [List.getElem?_map, List.getElem?_map, List.getElem?_range hi] at h1
    simp only [Option.map_some, Option.some.injEq] at h1
    have h2 := congrArg UInt8.toNat h1
    rw [ofNat_toNat (Nat.mod_lt _ (by omega)), ofNat_toNat (Nat.mod_lt _ (by omega))] at h2
    exact h2
  have g0 := g 0 (by omega)
  have g1 := g 1 (by omega)
  have g2 := g 2 (by omega)
  have g3 := g 3 (by omega)
  have g4 := g 4 (by omega)
  have g5 := g 5 (by omega)
  have g6 := g 6 (by omega)
  have g7 := g 7 (by omega)
  simp only [Nat.reduceSub, Nat.reducePow, Nat.div_one] at g0 g1 g2 g3 g4 g5 g6 g7
  omega
/-- A reader reads a number: the number, what is left, is it bad. -/
def numR (l : List UInt8) (bad : Bool) : Nat × List UInt8 × Bool := if (uvB l && !bad) = true then (uvX l, l.drop (uvN l), false) else (0, l, true)
/-- .. so many bytes. -/
def bytesR (n : Nat) (l : List UInt8) (bad : Bool) : List UInt8 × List UInt8 × Bool := if (bad || decide (l.length < n)) = true then ([], l, true) else (l.take n, l.drop n, false)
def dataR (l : List UInt8) (bad : Bool) : List UInt8 × List UInt8 × Bool := bytesR (numR l bad).1 (numR l bad).2.1 (numR l bad).2.2
def packed (seq : Nat) (body : List UInt8) : List UInt8 := put seq ++ put body.length ++ body ++ be8 (Hs.hash HS (put seq ++ put body.length ++ body))
def packS (seq : Nat) (body : List UInt8) : List UInt8 := put seq ++ put body.length ++ body
theorem packed_eq (seq : Nat) (body : List UInt8) : packed seq body = packS seq body ++ be8 (Hs.hash HS (packS seq body)) := rfl
def opR (l : List UInt8) : List UInt8 × List UInt8 × Bool := dataR (numR l false).2.1 (numR l false).2.2
def opens (l : List UInt8) : Nat × List UInt8 × Int :=
  if ((opR l).2.2 || decide ((opR l).2.1.length ≠ 8)) = true then (0, [], 1900)
  else if be8 (Hs.hash HS (l.take (l.length - 8))) ≠ (opR l).2.1 then (0, [], 1903)
  else ((numR l false).1, (opR l).1, 0)
theorem numR_put (x : Nat) (hx : x < 18446744073709551616) (t : List UInt8) : numR (put x ++ t) false = (x, t, false) := by
  have h := uv_some (rd_put x hx t)
  unfold numR
  rw [h.1, h.2.1, h.2.2, List.drop_left]; rfl
theorem numR_len (l : List UInt8) (b : Bool) : (numR l b).2.1.length ≤ l.length := by unfold numR; split <;> simp
theorem numR_lt (l : List UInt8) (b : Bool) : (numR l b).1 < 18446744073709551616 := by
  unfold numR; split
  · exact uvX_lt l
  · exact Nat.zero_lt_succ _
theorem bytesR_len (n : Nat) (l : List UInt8) (b : Bool) : (bytesR n l b).1.length ≤ l.length ∧ (bytesR n l b).2.1.length ≤ l.length := by
  unfold bytesR; split <;> simp [List.length_take]; omega
theorem opens_packed (n : Nat) (b : List UInt8) (hn : n < 18446744073709551616) (hb : b.length < 18446744073709551616) : opens (packed n b) = (n, b, 0) := by
  have h1 : numR (packed n b) false = (n, put b.length ++ (b ++ be8 (Hs.hash HS (packS n b))), false) := by
    have : packed n b = put n ++ (put b.length ++ (b ++ be8 (Hs.hash HS (packS n b)))) := by rw [packed_eq]; unfold packS; simp
    rw [this]; exact numR_put n hn _
  have h2 : opR (packed n b) = (b, be8 (Hs.hash HS (packS n b)), false) := by
    unfold opR dataR
    rw [h1]
    simp only
    rw [numR_put b.length hb]
    unfold bytesR
    simp
  have h3 : (packed n b).take ((packed n b).length - 8) = packS n b := by
    have hl : (packed n b).length - 8 = (packS n b).length := by rw [packed_eq, List.length_append, be8_len]; omega
    rw [hl, packed_eq]; exact List.take_left
  unfold opens
  rw [h2, h1, h3]
  simp [be8_len]
theorem numR_ok {l t : List UInt8} {n : Nat} (h : numR l false = (n, t, false)) : l = put n ++ t ∧ n < 18446744073709551616 := by
  unfold numR at h
  split at h
  · rename_i hu
    cases hr : rd 0 0 l with
    | none => rw [(uv_none hr).2.2] at hu; simp at hu
    | some p =>
      obtain ⟨v, k⟩ := p
      have hs := uv_some hr
      rw [hs.1, hs.2.1] at h
      injection h with h1 h2
      injection h2 with h2 _
      obtain ⟨g1, g2, g3, g4⟩ := put_rd hr
      subst h1 h2
      exact ⟨by rw [g4, List.take_append_drop], g1⟩
  · injection h with _ h2
    injection h2 with _ h2
    cases h2
theorem numR_bad (l : List UInt8) : (numR l true).2.2 = true := by unfold numR; simp
/-- What is opened is the sealed form of what it is opened to. -/
theorem opens_ok {l b : List UInt8} {n : Nat} (h : opens l = (n, b, 0)) : l = packed n b ∧ n < 18446744073709551616 := by
  unfold opens at h
  split at h
  · injection h with _ h; injection h with _ h; cases h
  · rename_i h1
    split at h
    · injection h with _ h; injection h with _ h; cases h
    · rename_i h2
      injection h with e1 e2
      injection e2 with e2 _
      simp only [Bool.or_eq_true, decide_eq_true_eq, not_or] at h1
      obtain ⟨hbad, hlen⟩ := h1
      have hlen : (opR l).2.1.length = 8 := by simpa using hlen
      have h2 : be8 (Hs.hash HS (l.take (l.length - 8))) = (opR l).2.1 := by simpa using h2
      obtain ⟨x, t, bd, hx⟩ : ∃ x t bd, numR l false = (x, t, bd) := ⟨_, _, _, rfl⟩
      have ho : opR l = dataR t bd := by unfold opR; rw [hx]
      cases bd with
      | true =>
        exfalso; apply hbad
        rw [ho]
        unfold dataR bytesR
        rw [numR_bad]; rfl
      | false =>
        obtain ⟨hl, hx64⟩ := numR_ok hx
        obtain ⟨y, t2, bd2, hy⟩ : ∃ y t2 bd2, numR t false = (y, t2, bd2) := ⟨_, _, _, rfl⟩
        have ho2 : opR l = bytesR y t2 bd2 := by rw [ho]; unfold dataR; rw [hy]
        cases bd2 with
        | true => exfalso; apply hbad; rw [ho2]; unfold bytesR; simp
        | false =>
          obtain ⟨ht, hy64⟩ := numR_ok hy
          unfold bytesR at ho2
          split at ho2
          · exfalso; apply hbad; rw [ho2]
          · rename_i hyl
            simp only [Bool.false_or, decide_eq_true_eq, Nat.not_lt] at hyl
            rw [ho2] at e2 hlen h2
            simp only at e2 hlen h2
            rw [hx] at e1
            simp only at e1
            subst e1 e2
            have hyy : (t2.take y).length = y := by rw [List.length_take]; omega
            have hs : l = packS x (t2.take y) ++ t2.drop y := by
              rw [hl, ht]; unfold packS; rw [hyy]; simp
            have htk : l.take (l.length - 8) = packS x (t2.take y) := by
              have : l.length - 8 = (packS x (t2.take y)).length := by rw [hs, List.length_append, hlen]; omega
              rw [this, hs]; exact List.take_left
            rw [htk] at h2
            refine ⟨?_, hx64⟩
            rw [packed_eq, h2]; exact hs
/-- A sealed segment with one byte changed is not opened. -/
theorem packed_set (n : Nat) (b : List UInt8) (k : Nat) (hk : k < (packed n b).length) (c : UInt8) (hc : (packed n b)[k] ≠ c) (hb : b.length < 18446744073709551616) : (opens ((packed n b).set k c)).2.2 ≠ 0 := by
  intro h
  obtain ⟨n', b', e, he⟩ : ∃ n' b' e, opens ((packed n b).set k c) = (n', b', e) := ⟨_, _, _, rfl⟩
  rw [he] at h
  simp only at h
  subst h
  obtain ⟨hs, _⟩ := opens_ok he
  have hlen : (packed n b).length = (packed n' b').length := by rw [← hs, List.length_set]
  have hl2 : (packS n b).length = (packS n' b').length := by
    rw [packed_eq, packed_eq, List.length_append, List.length_append, be8_len, be8_len] at hlen; omega
  have hlt : ∀ l, Hs.hash HS l < 18446744073709551616 := fun l => Hs.hash_lt _ _ (by decide)
  by_cases hkl : k < (packS n b).length
  · have e1 : (packS n b).set k c = packS n' b' := by
      have h1 := congrArg (List.take (packS n b).length) hs
      rw [packed_eq, List.set_append_left _ _ hkl] at h1
      rw [show (packS n b).length = ((packS n b).set k c).length by simp, List.take_left] at h1
      rw [h1, packed_eq, show ((packS n b).set k c).length = (packS n' b').length by simp [hl2], List.take_left]
    have e2 : be8 (Hs.hash HS (packS n b)) = be8 (Hs.hash HS (packS n' b')) := by
      have h1 := congrArg (List.drop (packS n b).length) hs
      rw [packed_eq, List.set_append_left _ _ hkl] at h1
      rw [show (packS n b).length = ((packS n b).set k c).length by simp, List.drop_left] at h1
      rw [h1, packed_eq, show ((packS n b).set k c).length = (packS n' b').length by simp [hl2], List.drop_left]
    have e3 := be8_inj (hlt _) (hlt _) e2
    rw [← e1] at e3
    have hne : (packS n b)[k] ≠ c := by
      intro h; apply hc
      rw [← h]
      simp only [packed_eq]
      exact List.getElem_append_left hkl
    exact Hs.hash_set (packS n b) k hkl c (by decide) hne e3
  · have e1 : packS n b = packS n' b' := by
      have h1 := congrArg (List.take (packS n b).length) hs
      rw [packed_eq, List.set_append_right _ _ (by omega), List.take_left] at h1
      rw [h1, packed_eq, hl2, List.take_left]
    rw [packed_eq n' b', ← e1, ← packed_eq] at hs
    have h2 : ((packed n b).set k c)[k]? = (packed n b)[k]? := by rw [hs]
    rw [List.getElem?_set_self hk, List.getElem?_eq_getElem hk] at h2
    injection h2 with h2
    exact hc h2.symm
end Go.Proofs.Ytmmnanmegdflgaa.Lg

namespace Go.Proofs.Ytmmnanmegdflgaa.Jn
set_option linter.unusedVariables false
open Ad Uv Lg
def u64 (x : Int) : Nat := (x % 18446744073709551616).toNat
def i64 (n : Nat) : Int := IntKind.i64.wrap n
def In (x : Int) : Prop := -9223372036854775808 ≤ x ∧ x ≤ 9223372036854775807
theorem u64_lt (x : Int) : u64 x < 18446744073709551616 := by unfold u64; omega
theorem i64_in (n : Nat) : In (i64 n) := by unfold In i64 IntKind.wrap; simp [IntKind.signed, IntKind.bits]; split <;> omega
theorem i64_u64 {x : Int} (h : In x) : i64 (u64 x) = x := by unfold In at h; unfold i64 u64 IntKind.wrap; simp [IntKind.signed, IntKind.bits]; split <;> omega
theorem u64_i64 {n : Nat} (h : n < 18446744073709551616) : u64 (i64 n) = n := by unfold i64 u64 IntKind.wrap; simp [IntKind.signed, IntKind.bits]; split <;> omega
/-- The numbers of an operation. -/
def upZ (b : Bool) : Int := if b = true then 1 else 0
theorem upZ_in (b : Bool) : In (upZ b) := by unfold In upZ; split <;> omega
def nums (o : Man) : List Int := [o.a, o.b, o.d.r, o.d.l, o.d.c, o.d.g, o.c.m, o.c.c, upZ o.c.up]
def encH (o : Man) : List UInt8 := put (u64 o.k) ++ (put o.nm.data.toList.length ++ o.nm.data.toList)
def encN (L : List Int) : List UInt8 := L.flatMap fun x => put (u64 x)
def enc (o : Man) : List UInt8 := encH o ++ encN (nums o)
theorem encN_snoc (L : List Int) (x : Int) : encN (L ++ [x]) = encN L ++ put (u64 x) := by unfold encN; rw [List.flatMap_append, List.flatMap_singleton]
theorem encN_at {L : List Int} {k : Nat} {x : Int} (h : L[k]? = some x) : encN (L.take (k + 1)) = encN (L.take k) ++ put (u64 x) := by
  obtain ⟨hk, rfl⟩ := List.getElem?_eq_some_iff.1 h
  rw [List.take_succ_eq_append_getElem hk, encN_snoc]
theorem encN_len (L : List Int) : (encN L).length ≤ 10 * L.length := by
  unfold encN
  induction L with
  | nil => simp
  | cons x L ih =>
    rw [List.flatMap_cons, List.length_append, List.length_cons]
    have := put_len (u64 x) (u64_lt x)
    omega
/-- An operation as the language has them. -/
def Ok (o : Man) : Prop := In o.k ∧ (∀ x ∈ nums o, In x) ∧ o.nm.data.toList.length < 18446744073709551616
/-- A reader's state behind j numbers. -/
def st (l : List UInt8) (b : Bool) : Nat → List UInt8 × Bool
  | 0 => (l, b)
  | j + 1 => (numR (st l b j).1 (st l b j).2).2
def nv (l : List UInt8) (b : Bool) (j : Nat) : Nat := (numR (st l b j).1 (st l b j).2).1
theorem st_succ (l : List UInt8) (b : Bool) (j : Nat) : st l b (j + 1) = (numR (st l b j).1 (st l b j).2).2 := rfl
theorem nv_lt (l : List UInt8) (b : Bool) (j : Nat) : nv l b j < 18446744073709551616 := numR_lt _ _
theorem st_bad (l : List UInt8) (j : Nat) : (st l true j).2 = true := by
  induction j with
  | zero => rfl
  | succ j ih => rw [st_succ, ih, numR_bad]
theorem st_stay {l : List UInt8} {b : Bool} {j : Nat} (h : (st l b j).2 = true) (k : Nat) (hk : j ≤ k) : (st l b k).2 = true := by
  induction k with
  | zero => obtain rfl : j = 0 := by omega
            exact h
  | succ k ih =>
    by_cases e : j = k + 1
    · subst e; exact h
    · rw [st_succ, ih (by omega), numR_bad]
theorem st_len (l : List UInt8) (b : Bool) (j : Nat) : (st l b j).1.length ≤ l.length := by
  induction j with
  | zero => exact Nat.le_refl _
  | succ j ih => rw [st_succ]; exact Nat.le_trans (numR_len _ _) ih
/-- Numbers that were put are read. -/
theorem st_put (L : List Int) (t : List UInt8) : ∀ j, j ≤ L.length → st (encN L ++ t) false j = (encN (L.drop j) ++ t, false)
  | 0, _ => by simp [st]
  | j + 1, hj => by
    have e : L.drop j = L[j]'(by omega) :: L.drop (j + 1) := by rw [← List.drop_eq_getElem_cons]
    rw [st_succ, st_put L t j (by omega), e]
    show (numR (encN (L[j]'(by omega) :: L.drop (j + 1)) ++ t) false).2 = _
    rw [show encN (L[j]'(by omega) :: L.drop (j + 1)) = put (u64 (L[j]'(by omega))) ++ encN (L.drop (j + 1)) from rfl, List.append_assoc, numR_put _ (u64_lt _)]
theorem nv_put (L : List Int) (t : List UInt8) (j : Nat) (hj : j < L.length) : nv (encN L ++ t) false j = u64 L[j] := by
  unfold nv
  rw [st_put L t j (by omega), List.drop_eq_getElem_cons hj]
  show (numR (encN (L[j] :: L.drop (j + 1)) ++ t) false).1 = _
  rw [show encN (L[j] :: L.drop (j + 1)) = put (u64 L[j]) ++ encN (L.drop (j + 1)) from rfl, List.append_assoc, numR_put _ (u64_lt _)]
/-- What was read is what was put. -/
theorem st_ok (l : List UInt8) (j : Nat) (h : (st l false j).2 = false) : l = (List.range j).flatMap (fun i => put (nv l false i)) ++ (st l false j).1 := by
  induction j with
  | zero => simp [st]
  | succ j ih =>
    have h0 : (st l false j).2 = false := by
      cases e : (st l false j).2
      · rfl
      · rw [st_stay e (j + 1) (by omega)] at h; cases h
    have h1 := ih h0
    rw [st_succ, h0] at h
    have h2 : numR (st l false j).1 false = (nv l false j, (st l false (j + 1)).1, false) := by
      rw [st_succ, nv, h0]
      exact Prod.ext rfl (Prod.ext rfl h)
    have h3 := (numR_ok h2).1
    rw [List.range_succ, List.flatMap_append, List.flatMap_singleton, List.append_assoc, ← h3]
    exact h1
/-- What an operation is decoded from. -/
def dK (l : List UInt8) : Nat × List UInt8 × Bool := numR l false
def dS (l : List UInt8) : List UInt8 × List UInt8 × Bool := dataR (dK l).2.1 (dK l).2.2
def dB (l : List UInt8) : Bool := (dS l).2.2
def dR (l : List UInt8) : List UInt8 := (dS l).2.1
def dN (l : List UInt8) (j : Nat) : Nat := nv (dR l) (dB l) j
def decoded (l : List UInt8) : Man :=
  { k := i64 (dK l).1, nm := ⟨(dS l).1.toArray⟩, a := i64 (dN l 0), b := i64 (dN l 1), d := ⟨i64 (dN l 2), i64 (dN l 3), i64 (dN l 4), i64 (dN l 5)⟩,
    c := ⟨i64 (dN l 6), i64 (dN l 7), decide (dN l 8 = 1)⟩ }
def reads (l : List UInt8) : Bool := !(st (dR l) (dB l) 9).2
def done (l : List UInt8) : Bool := decide ((st (dR l) (dB l) 9).1 = [])
def decOk (l : List UInt8) : Bool := reads l && (decide (dN l 8 ≤ 1) && done l)
def zeroM : Man := ⟨0, ByteArray.empty, 0, 0, ⟨0, 0, 0, 0⟩, ⟨0, 0, false⟩⟩
def dec (l : List UInt8) : Man := if decOk l = true then decoded l else zeroM
theorem dec_put (o : Man) (h : Ok o) (t : List UInt8) : (dK (enc o ++ t)).1 = u64 o.k ∧ (dS (enc o ++ t)) = (o.nm.data.toList, encN (nums o) ++ t, false) := by
  have h1 : dK (enc o ++ t) = (u64 o.k, put o.nm.data.toList.length ++ (o.nm.data.toList ++ (encN (nums o) ++ t)), false) := by
    unfold dK enc encH
    rw [List.append_assoc, List.append_assoc, List.append_assoc]
    exact numR_put _ (u64_lt _) _
  refine ⟨by rw [h1], ?_⟩
  unfold dS dataR
  rw [h1]
  simp only
  rw [numR_put _ h.2.2]
  unfold bytesR
  simp
theorem man_ext {o p : Man} (h1 : o.k = p.k) (h2 : o.nm = p.nm) (h3 : nums o = nums p) : o = p := by
  obtain ⟨k, nm, a, b, ⟨r, l, c, g⟩, ⟨m, cc, up⟩⟩ := o
  obtain ⟨k', nm', a', b', ⟨r', l', c', g'⟩, ⟨m', cc', up'⟩⟩ := p
  simp only [nums, List.cons.injEq, and_true] at h3
  simp only at h1 h2
  obtain ⟨h3, h4, h5, h6, h7, h8, h9, h10, h11⟩ := h3
  subst h1 h2 h3 h4 h5 h6 h7 h8 h9 h10
  have : up = up' := by cases up <;> cases up' <;> first | rfl | (exact absurd h11 (by decide))
  rw [this]
/-- An operation is decoded from its encoding. -/
theorem dec_enc (o : Man) (h : Ok o) : decOk (enc o) = true ∧ dec (enc o) = o := by
  have h0 := dec_put o h []
  rw [List.append_nil, List.append_nil] at h0
  obtain ⟨hk, hs⟩ := h0
  have hR : dR (enc o) = encN (nums o) ++ [] := by unfold dR; rw [hs, List.append_nil]
  have hB : dB (enc o) = false := by unfold dB; rw [hs]
  have hN : ∀ j (hj : j < (nums o).length), dN (enc o) j = u64 (nums o)[j] := fun j hj => by unfold dN; rw [hR, hB]; exact nv_put _ _ j hj
  have h9 : st (dR (enc o)) (dB (enc o)) 9 = ([], false) := by rw [hR, hB, st_put _ _ 9 (by simp [nums])]; rfl
  have hup : dN (enc o) 8 = u64 (upZ o.c.up) := hN 8 (by simp [nums])
  have hok : decOk (enc o) = true := by
    unfold decOk reads done
    rw [h9, hup]
    cases o.c.up <;> rfl
  refine ⟨hok, ?_⟩
  unfold dec
  rw [if_pos hok]
  have hi : ∀ j (hj : j < (nums o).length), i64 (dN (enc o) j) = (nums o)[j] := fun j hj => by rw [hN j hj]; exact i64_u64 (h.2.1 _ (List.getElem_mem hj))
  refine man_ext ?_ ?_ ?_
  · show i64 (dK (enc o)).1 = _
    rw [hk]; exact i64_u64 h.1
  · show (⟨(dS (enc o)).1.toArray⟩ : ByteArray) = _
    rw [hs]
  · simp only [decoded, nums]
    have e0 := hi 0 (by simp [nums]); have e1 := hi 1 (by simp [nums]); have e2 := hi 2 (by simp [nums]); have e3 := hi 3 (by simp [nums]); have e4 := hi 4 (by simp [nums])
    have e5 := hi 5 (by simp [nums]); have e6 := hi 6 (by simp [nums]); have e7 := hi 7 (by simp [nums])
    simp only [nums, List.getElem_cons_succ, List.getElem_cons_zero] at e0 e1 e2 e3 e4 e5 e6 e7
    rw [e0, e1, e2, e3, e4, e5, e6, e7, hup]
    have : upZ (decide (u64 (upZ o.c.up) = 1)) = upZ o.c.up := by cases o.c.up <;> rfl
    rw [this]
/-- What the numbers of what was read encode to, but for the last. -/
theorem read_enc (l : List UInt8) (h : reads l = true) (hd : done l = true) : ∃ hd : List UInt8, l = hd ++ put (dN l 8) ∧ enc (decoded l) = hd ++ put (u64 (upZ (decide (dN l 8 = 1)))) ∧ (dS l).1.length < 18446744073709551616 := by
  unfold reads at h
  rw [Bool.not_eq_true'] at h
  have hB : dB l = false := by
    cases e : dB l
    · rfl
    · rw [e, st_bad] at h; cases h
  have hdR := hd
  unfold done at hdR
  rw [decide_eq_true_eq] at hdR
  rw [hB] at h hdR
  have h1 := st_ok (dR l) 9 h
  rw [hdR, List.append_nil] at h1
  -- the head
  have hK : (dK l).2.2 = false := by
    cases e : (dK l).2.2
    · rfl
    · exfalso
      unfold dB dS dataR at hB
      rw [e, numR_bad] at hB
      simp [bytesR] at hB
  obtain ⟨h2, h3⟩ := numR_ok (l := l) (n := (dK l).1) (t := (dK l).2.1) (Prod.ext rfl (Prod.ext rfl hK))
  obtain ⟨n, t, bd, hn⟩ : ∃ n t bd, numR (dK l).2.1 false = (n, t, bd) := ⟨_, _, _, rfl⟩
  have hS : dS l = bytesR n t bd := by unfold dS dataR; rw [hK, hn]
  cases bd with
  | true => exfalso; unfold dB at hB; rw [hS] at hB; simp [bytesR] at hB
  | false =>
    obtain ⟨h4, h5⟩ := numR_ok hn
    have h6 : ¬ t.length < n := by
      intro hlt
      unfold dB at hB; rw [hS] at hB; simp [bytesR, hlt] at hB
    have hS2 : dS l = (t.take n, t.drop n, false) := by rw [hS]; unfold bytesR; rw [if_neg (by simp; omega)]
    have hlen : (t.take n).length = n := by rw [List.length_take]; omega
    have hR : dR l = t.drop n := by unfold dR; rw [hS2]
    have hr9 : List.range 9 = [0, 1, 2, 3, 4, 5, 6, 7, 8] := by decide
    have hN : ∀ j, nv (dR l) false j = dN l j := fun j => by unfold dN; rw [hB]
    rw [hr9] at h1
    simp only [List.flatMap_cons, List.flatMap_nil, List.append_nil, hN] at h1
    refine ⟨put (dK l).1 ++ (put n ++ (t.take n ++ (put (dN l 0) ++ (put (dN l 1) ++ (put (dN l 2) ++ (put (dN l 3) ++ (put (dN l 4) ++ (put (dN l 5) ++ (put (dN l 6) ++ put (dN l 7)))))))))), ?_, ?_, ?_⟩
    · have : l = put (dK l).1 ++ (put n ++ (t.take n ++ dR l)) := by rw [hR, List.take_append_drop, ← h4]; exact h2
      refine this.trans ?_
      rw [h1]
      simp only [List.append_assoc]
    · have hu : ∀ j, u64 (i64 (dN l j)) = dN l j := fun j => u64_i64 (nv_lt _ _ _)
      simp only [enc, encH, encN, nums, decoded, hS2, List.flatMap_cons, List.flatMap_nil, List.append_nil, hu, u64_i64 h3, hlen, List.append_assoc]
    · rw [hS2, hlen]; exact h5
theorem put_inj {a b : Nat} (ha : a < 18446744073709551616) (hb : b < 18446744073709551616) (h : put a = put b) : a = b := by
  have h1 := numR_put a ha []
  rw [h, numR_put b hb []] at h1
  injection h1 with h1 _
  exact h1.symm
/-- What is decoded has what it was decoded from as its encoding. -/
theorem enc_dec (l : List UInt8) (h : decOk l = true) : enc (decoded l) = l := by
  unfold decOk at h
  rw [Bool.and_eq_true, Bool.and_eq_true, decide_eq_true_eq] at h
  obtain ⟨hd, h1, h2, _⟩ := read_enc l h.1 h.2.2
  rw [h2]
  have : u64 (upZ (decide (dN l 8 = 1))) = dN l 8 := by
    have := h.2.1
    obtain e | e : dN l 8 = 0 ∨ dN l 8 = 1 := by omega
    · rw [e]; rfl
    · rw [e]; rfl
  rw [this]; exact h1.symm
/-- .. and what is read, but has another last number, has not. -/
theorem enc_ne (l : List UInt8) (h : reads l = true) (hd : done l = true) (h8 : ¬ dN l 8 ≤ 1) : enc (decoded l) ≠ l := by
  obtain ⟨hd, h1, h2, _⟩ := read_enc l h hd
  rw [h2]
  have hz : u64 (upZ (decide (dN l 8 = 1))) = 0 := by rw [decide_eq_false (by omega)]; rfl
  rw [hz]
  have h9 : dN l 8 < 18446744073709551616 := nv_lt _ _ _
  generalize dN l 8 = n at *
  intro e
  rw [h1] at e
  have := put_inj (by omega) h9 (List.append_cancel_left e)
  omega
theorem mk_ok (k : Nat) (nm : List UInt8) (n0 n1 n2 n3 n4 n5 n6 n7 : Nat) (up : Bool) (h : nm.length < 18446744073709551616) : Ok ⟨i64 k, ⟨nm.toArray⟩, i64 n0, i64 n1, ⟨i64 n2, i64 n3, i64 n4, i64 n5⟩, ⟨i64 n6, i64 n7, up⟩⟩ := by
  refine ⟨i64_in _, ?_, h⟩
  intro x hx
  simp only [nums, List.mem_cons, List.not_mem_nil, or_false] at hx
  rcases hx with rfl | rfl | rfl | rfl | rfl | rfl | rfl | rfl | rfl
  all_goals first | with_reducible exact i64_in _ | with_reducible exact upZ_in _
theorem decoded_ok (l : List UInt8) (h : reads l = true) (hd : done l = true) : Ok (decoded l) := by
  obtain ⟨_, _, _, h3⟩ := read_enc l h hd
  exact mk_ok _ _ _ _ _ _ _ _ _ _ _ h3
theorem zero_ok : Ok zeroM := by
  refine ⟨by unfold In zeroM; simp, ?_, by simp [zeroM]⟩
  intro x hx
  simp only [nums, zeroM, List.mem_cons, List.not_mem_nil, or_false] at hx
  rcases hx with rfl | rfl | rfl | rfl | rfl | rfl | rfl | rfl | rfl
  all_goals first | (unfold In; omega) | exact upZ_in _
theorem dec_ok (l : List UInt8) : Ok (dec l) := by
  unfold dec
  split
  · rename_i h
    unfold decOk at h
    rw [Bool.and_eq_true, Bool.and_eq_true, decide_eq_true_eq] at h
    exact decoded_ok l h.1 h.2.2
  · exact zero_ok
end Go.Proofs.Ytmmnanmegdflgaa.Jn
