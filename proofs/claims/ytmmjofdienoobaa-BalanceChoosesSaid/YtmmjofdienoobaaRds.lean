/-
  What came in reads as data: its cells, leaf by leaf, whatever structs, arrays and slices it is made of.
-/
import Derived.Test.YtmmjofdienoobaaSl
import Derived.WalkKit
import Derived.ProofKit
import Derived.OpenShut
import Derived.Deep.Slices
import Derived.ChangeArms
namespace Go.Proofs.Ytmmjofdienoobaa
open Go.RowKit
set_option linter.unusedVariables false
/-- The parts of a type (offset, type): a struct's fields, an array's elements. -/
def parts (P : Program) (t : TypeId) : Option (List (Nat × TypeId)) :=
  match P.underlying t with
  | some (.struct fs) => some (fs.toList.map fun f => (f.offset, f.type))
  | some (.array m e) => some ((List.range m).map fun i => (i * P.cellsOf e, e))
  | _ => none
/-- Cells that read as data of a type. -/
def Rds (P : Program) (w : World) : Nat → TypeId → List Value → Prop
  | 0, _, _ => True
  | n + 1, t, cs =>
    match parts P t with
    | some ps => cs.length = P.cellsOf t ∧ ∀ p ∈ ps, Rds P w n p.2 ((cs.drop p.1).take (P.cellsOf p.2))
    | none =>
      match P.underlying t with
      | some (.int k) => ∃ z, cs = [.int k z] ∧ (Lit.int k z).wf = true
      | some .bool => ∃ b, cs = [.bool b]
      | some .string => ∃ s : ByteArray, cs = [.string s] ∧ s.size ≤ maxLen
      | some (.slice e) => ∃ (A : Option Addr) (len cap : Nat), cs = [.slice A len cap] ∧ len ≤ cap ∧ cap ≤ maxLen ∧
          (A = none → cap = 0) ∧ (len = 0 ∨ P.cellsOf e = 0 ∨ ∃ b off, A = some ⟨b, off, none⟩ ∧ b < w.heap.size ∧ ∀ i, i < len → ∃ cs' : List Value, cs'.length = P.cellsOf e ∧ (∀ j v, cs'[j]? = some v → w.cell? ⟨b, off + i * P.cellsOf e + j, none⟩ = some v) ∧ Rds P w n e cs')
      | _ => True
theorem add_none (a : Addr) (h : a.spot = none) (i : Nat) : a.add i = ⟨a.block, a.off + i, none⟩ := by
  obtain ⟨b, o, s⟩ := a
  subst h
  unfold Addr.add; split
  · rename_i h; subst h; rfl
  · rfl
theorem rds_of_trod {H : Type} {enc : TypeId × Value → H} {P : Program} {w : World} {base : Nat} {spare : Nat → Bool} {held : Bool} : ∀ (n fuel : Nat) (t : TypeId) (cs : List Value) (x : DataW H × List MemPlace),
    DataW.trod enc P w base spare held fuel t cs = some x → Rds P w n t cs
  | 0, _, _, _, _, _ => trivial
  | n + 1, fuel, t, cs, x, h => by
    unfold Rds parts
    cases ht : P.underlying t with
    | none => trivial
    | some ty =>
      cases ty with
      | struct fs =>
        obtain ⟨xs, m, _, _, hl, hxl, hf⟩ := DataW.trod_struct ht h
        refine ⟨hl, fun p hp => ?_⟩
        obtain ⟨f, hfm, rfl⟩ := List.mem_map.1 hp
        obtain ⟨i, hi, hif⟩ := List.mem_iff_getElem.1 hfm
        have hi' : i < fs.size := by simpa using hi
        have hx := hf i f (by rw [Array.getElem?_eq_getElem hi']; simpa using hif)
        rw [List.getElem?_eq_getElem (by omega)] at hx
        exact rds_of_trod n _ _ _ _ hx
      | array m e =>
        obtain ⟨xs, k, _, _, hl, hxl, hf⟩ := DataW.trod_array ht h
        refine ⟨hl, fun p hp => ?_⟩
        obtain ⟨i, him, rfl⟩ := List.mem_map.1 hp
        have hi : i < m := by simpa using him
        have hx := hf i hi
        rw [List.getElem?_eq_getElem (by omega)] at hx
        exact rds_of_trod n _ _ _ _ hx
      | int k =>
        obtain ⟨z, rfl, _, hw⟩ := DataW.trod_int ht h
        exact ⟨z, rfl, hw⟩
      | bool =>
        obtain ⟨b, rfl, _⟩ := DataW.trod_bool ht h
        exact ⟨b, rfl⟩
      | string =>
        obtain ⟨s, rfl, _, hs⟩ := DataW.trod_string ht h
        exact ⟨s, rfl, hs⟩
      | slice e =>
        rcases Go.Deep.open_slice ht h with ⟨rfl, _⟩ | ⟨a, len, cap, m, k, D, Pl, rfl, hb, hl, hm, hmm, _, hi⟩
        · exact ⟨none, 0, 0, rfl, Nat.le_refl _, Nat.zero_le _, (fun _ => rfl), .inl rfl⟩
        · refine ⟨some a, len, cap, rfl, hl, hm, (fun h => by cases h), ?_⟩
          by_cases h0 : len = 0
          · exact .inl h0
          by_cases hz : P.cellsOf e = 0
          · exact .inr (.inl hz)
          have hlm : len ≤ m := by rw [hmm]; split <;> omega
          have hspot : a.spot = none ∧ a.block < w.heap.size := by
            obtain ⟨cs', hc, _⟩ := hi 0 (by omega)
            obtain ⟨_, hcl, hat⟩ := World.cells?_some hc
            have h1 := hat 0 (by omega)
            rw [List.getElem?_eq_getElem (by omega)] at h1
            have e0 : (a.add (0 * P.cellsOf e)).add 0 = a := by simp [Addr.add]
            rw [e0] at h1
            exact ⟨World.cell?_spot h1, World.block_lt_of_cell? w a h1⟩
          refine .inr (.inr ⟨a.block, a.off, ?_, hspot.2, fun i hil => ?_⟩)
          · obtain ⟨b, o, s⟩ := a
            simp at hspot
            rw [hspot.1]
          · obtain ⟨cs', hc, ht'⟩ := hi i (by omega)
            obtain ⟨_, hcl, hat⟩ := World.cells?_some hc
            refine ⟨cs', hcl, fun j v hv => ?_, rds_of_trod n _ _ _ _ ht'⟩
            have hj := (List.getElem?_eq_some_iff.1 hv).1
            have h1 := hat j (by omega)
            rw [Go.Deep.add_add, add_none a hspot.1, hv, ← Nat.add_assoc] at h1
            exact h1
      | _ => trivial
/-- The leaves of a type, in the order of its cells. -/
def leaves (P : Program) : Nat → TypeId → List TypeId
  | 0, t => [t]
  | n + 1, t => match parts P t with
    | some ps => ps.flatMap fun p => leaves P n p.2
    | none => [t]
def laidB (P : Program) : Nat → TypeId → Bool
  | 0, _ => false
  | n + 1, t => match parts P t with
    | some ps => (ps.foldr (fun p (k : Option Nat) => match k with | some e => if p.1 + P.cellsOf p.2 = e ∧ (leaves P n p.2).length = P.cellsOf p.2 ∧ laidB P n p.2 = true ∧ ((parts P p.2).isSome || P.cellsOf p.2 == 1) = true then some p.1 else none | none => none) (some (P.cellsOf t))) == some 0
    | none => true
/-- Each cell reads as its leaf. -/
def Lvs (P : Program) (w : World) (n : Nat) : List TypeId → List Value → Prop
  | [], cs => cs = []
  | t :: ts, cs => ∃ v rest, cs = v :: rest ∧ (∃ m, n ≤ m ∧ Rds P w m t [v]) ∧ Lvs P w n ts rest
theorem Lvs.app {P : Program} {w : World} {n : Nat} : ∀ {ts us : List TypeId} {cs ds : List Value}, Lvs P w n ts cs → Lvs P w n us ds → Lvs P w n (ts ++ us) (cs ++ ds)
  | [], _, cs, _, h, k => by rw [show cs = [] from h]; exact k
  | t :: ts, _, cs, _, ⟨v, rest, e, hv, hr⟩, k => by rw [e]; exact ⟨v, _, rfl, hv, Lvs.app hr k⟩
theorem rds_more {P : Program} {w : World} : ∀ (n m : Nat) (t : TypeId) (cs : List Value), n ≤ m → Rds P w m t cs → Rds P w n t cs
  | 0, _, _, _, _, _ => trivial
  | n + 1, 0, _, _, h, _ => by omega
  | n + 1, m + 1, t, cs, h, hr => by
    unfold Rds at hr ⊢
    cases hp : parts P t with
    | some ps =>
      rw [hp] at hr
      exact ⟨hr.1, fun p hpm => rds_more n m _ _ (by omega) (hr.2 p hpm)⟩
    | none =>
      rw [hp] at hr
      cases ht : P.underlying t with
      | none => trivial
      | some ty =>
        rw [ht] at hr
        cases ty <;> first | exact hr | trivial | skip
        obtain ⟨A, len, cap, h1, h2, h3, h4, h5⟩ := hr
        refine ⟨A, len, cap, h1, h2, h3, h4, h5.imp id fun h5 => h5.imp id ?_⟩
        rintro ⟨b, off, e1, e2, e3⟩
        refine ⟨b, off, e1, e2, fun i hi => ?_⟩
        obtain ⟨cs', f1, f2, f3⟩ := e3 i hi
        exact ⟨cs', f1, f2, rds_more n m _ _ (by omega) f3⟩
theorem laid_fold {P : Program} {n e : Nat} : ∀ (ps : List (Nat × TypeId)) (o : Nat),
    ps.foldr (fun p (k : Option Nat) => match k with | some e => if p.1 + P.cellsOf p.2 = e ∧ (leaves P n p.2).length = P.cellsOf p.2 ∧ laidB P n p.2 = true ∧ ((parts P p.2).isSome || P.cellsOf p.2 == 1) = true then some p.1 else none | none => none) (some e) = some o →
    match ps with
    | [] => o = e
    | p :: rest => o = p.1 ∧ (leaves P n p.2).length = P.cellsOf p.2 ∧ laidB P n p.2 = true ∧ ((parts P p.2).isSome || P.cellsOf p.2 == 1) = true ∧ rest.foldr (fun p (k : Option Nat) => match k with | some e => if p.1 + P.cellsOf p.2 = e ∧ (leaves P n p.2).length = P.cellsOf p.2 ∧ laidB P n p.2 = true ∧ ((parts P p.2).isSome || P.cellsOf p.2 == 1) = true then some p.1 else none | none => none) (some e) = some (p.1 + P.cellsOf p.2)
  | [], o, h => by simpa using h.symm
  | p :: rest, o, h => by
    rw [List.foldr_cons] at h
    revert h
    cases hr : rest.foldr (fun p (k : Option Nat) => match k with | some e => if p.1 + P.cellsOf p.2 = e ∧ (leaves P n p.2).length = P.cellsOf p.2 ∧ laidB P n p.2 = true ∧ ((parts P p.2).isSome || P.cellsOf p.2 == 1) = true then some p.1 else none | none => none) (some e) with
    | none => intro h; cases h
    | some k =>
      intro h
      simp only at h
      split at h
      · rename_i hc
        injection h with h
        exact ⟨h.symm, hc.2.1, hc.2.2.1, hc.2.2.2, by rw [hc.1]; exact hr⟩
      · cases h
/-- Cells that read as data of a type read so leaf by leaf. -/
theorem lvs_of_rds {P : Program} {w : World} (d : Nat) : ∀ (n : Nat) (t : TypeId) (cs : List Value), laidB P n t = true → Rds P w (n + d) t cs → (parts P t = none → ∃ v, cs = [v]) → Lvs P w d (leaves P n t) cs
  | 0, _, _, h, _, _ => by simp [laidB] at h
  | n + 1, t, cs, h, hr, h1 => by
    unfold leaves
    unfold laidB at h
    cases hp : parts P t with
    | none =>
      obtain ⟨v, rfl⟩ := h1 hp
      exact ⟨v, [], rfl, ⟨n + 1 + d, by omega, hr⟩, rfl⟩
    | some ps =>
      rw [hp] at h
      rw [show n + 1 + d = (n + d) + 1 by omega] at hr
      unfold Rds at hr
      rw [hp] at hr
      obtain ⟨hl, hall⟩ := hr
      have h' := eq_of_beq h
      have key : ∀ (qs : List (Nat × TypeId)) (o : Nat), (∀ p ∈ qs, Rds P w (n + d) p.2 ((cs.drop p.1).take (P.cellsOf p.2))) →
          qs.foldr (fun p (k : Option Nat) => match k with | some e => if p.1 + P.cellsOf p.2 = e ∧ (leaves P n p.2).length = P.cellsOf p.2 ∧ laidB P n p.2 = true ∧ ((parts P p.2).isSome || P.cellsOf p.2 == 1) = true then some p.1 else none | none => none) (some (P.cellsOf t)) = some o →
          o ≤ cs.length ∧ Lvs P w d (qs.flatMap fun p => leaves P n p.2) (cs.drop o) := by
        intro qs
        induction qs with
        | nil =>
          intro o _ hf
          have := laid_fold _ _ hf
          simp only at this
          subst this
          refine ⟨by omega, ?_⟩
          show cs.drop _ = []
          rw [← hl, List.drop_length]
        | cons p rest ih =>
          intro o ha hf
          obtain ⟨ho, hlen, hlb, hone, hrest⟩ := laid_fold _ _ hf
          subst ho
          obtain ⟨hle, hrs⟩ := ih _ (fun q hq => ha q (List.mem_cons_of_mem _ hq)) hrest
          refine ⟨by omega, ?_⟩
          have hp1 := ha p List.mem_cons_self
          have hsz : ((cs.drop p.1).take (P.cellsOf p.2)).length = P.cellsOf p.2 := by rw [List.length_take, List.length_drop]; omega
          have := lvs_of_rds d n p.2 _ hlb hp1 (fun hn => by
            have h2 : P.cellsOf p.2 = 1 := by rw [hn] at hone; simpa using hone
            rw [h2] at hsz
            exact List.length_eq_one_iff.1 (by rw [h2]; exact hsz))
          rw [List.flatMap_cons]
          have e : cs.drop p.1 = (cs.drop p.1).take (P.cellsOf p.2) ++ cs.drop (p.1 + P.cellsOf p.2) := by
            rw [← List.drop_drop, List.take_append_drop]
          rw [e]
          exact this.app hrs
      have := (key ps 0 hall h').2
      simpa using this
/-- A slice that came in, of elements that read as data. -/
def SlR (P : Program) (w : World) (n : Nat) (e : TypeId) (A : Option Addr) (len cap : Nat) : Prop :=
  len ≤ cap ∧ cap ≤ maxLen ∧ (A = none → cap = 0) ∧ (len = 0 ∨ P.cellsOf e = 0 ∨ ∃ b off, A = some ⟨b, off, none⟩ ∧ b < w.heap.size ∧ ∀ i, i < len → ∃ cs' : List Value, cs'.length = P.cellsOf e ∧ (∀ j v, cs'[j]? = some v → w.cell? ⟨b, off + i * P.cellsOf e + j, none⟩ = some v) ∧ Rds P w n e cs')
section
variable {P : Program} {w : World} {n : Nat} {t : TypeId} {v : Value}
theorem lvs_of (t : TypeId) (n d : Nat) {cs : List Value} (hs : (parts P t).isSome = true) (hl : laidB P n t = true) (h : Rds P w (n + d) t cs) : Lvs P w d (leaves P n t) cs :=
  lvs_of_rds d n t cs hl h (fun hn => by rw [hn] at hs; cases hs)
theorem leaf_int {k : IntKind} (hu : P.underlying t = some (.int k)) (h : ∃ m, n + 1 ≤ m ∧ Rds P w m t [v]) : ∃ z, v = .int k z ∧ (Lit.int k z).wf = true := by
  obtain ⟨m, hm, h⟩ := h
  obtain ⟨m, rfl⟩ : ∃ m', m = m' + 1 := ⟨m - 1, by omega⟩
  have hp : parts P t = none := by unfold parts; rw [hu]
  unfold Rds at h
  rw [hp, hu] at h
  obtain ⟨z, hz, hw⟩ := h
  exact ⟨z, by simpa using hz, hw⟩
theorem leaf_bool (hu : P.underlying t = some .bool) (h : ∃ m, n + 1 ≤ m ∧ Rds P w m t [v]) : ∃ b, v = .bool b := by
  obtain ⟨m, hm, h⟩ := h
  obtain ⟨m, rfl⟩ : ∃ m', m = m' + 1 := ⟨m - 1, by omega⟩
  have hp : parts P t = none := by unfold parts; rw [hu]
  unfold Rds at h
  rw [hp, hu] at h
  obtain ⟨b, hb⟩ := h
  exact ⟨b, by simpa using hb⟩
theorem leaf_string (hu : P.underlying t = some .string) (h : ∃ m, n + 1 ≤ m ∧ Rds P w m t [v]) : ∃ s : ByteArray, v = .string s ∧ s.size ≤ maxLen := by
  obtain ⟨m, hm, h⟩ := h
  obtain ⟨m, rfl⟩ : ∃ m', m = m' + 1 := ⟨m - 1, by omega⟩
  have hp : parts P t = none := by unfold parts; rw [hu]
  unfold Rds at h
  rw [hp, hu] at h
  obtain ⟨s, hs, hm⟩ := h
  exact ⟨s, by simpa using hs, hm⟩
theorem leaf_slice {e : TypeId} (hu : P.underlying t = some (.slice e)) (h : ∃ m, n + 1 ≤ m ∧ Rds P w m t [v]) : ∃ A len cap, v = .slice A len cap ∧ SlR P w n e A len cap := by
  obtain ⟨m, hm, h⟩ := h
  obtain ⟨m, rfl⟩ : ∃ m', m = m' + 1 := ⟨m - 1, by omega⟩
  have hp : parts P t = none := by unfold parts; rw [hu]
  have h := rds_more (n + 1) (m + 1) _ _ hm h
  unfold Rds at h
  rw [hp, hu] at h
  obtain ⟨A, len, cap, h1, h2⟩ := h
  exact ⟨A, len, cap, by simpa using h1, h2⟩
end
theorem choose_list {α : Type} {p : Nat → α → Prop} : ∀ (n : Nat), (∀ i, i < n → ∃ x, p i x) → ∃ L : List α, L.length = n ∧ ∀ i (h : i < L.length), p i L[i]
  | 0, _ => ⟨[], rfl, fun i h => absurd h (Nat.not_lt_zero _)⟩
  | n + 1, h => by
    obtain ⟨L, hl, hp⟩ := choose_list n (fun i hi => h i (by omega))
    obtain ⟨x, hx⟩ := h n (by omega)
    refine ⟨L ++ [x], by simp [hl], fun i hi => ?_⟩
    by_cases e : i < L.length
    · rw [List.getElem_append_left e]; exact hp i e
    · have : i = n := by simp at hi; omega
      subst this
      rw [List.getElem_append_right (by omega)]
      simpa [hl] using hx
/-- Such a slice holds a list. -/
theorem SlR.sl {α : Type} {P : Program} {w : World} {n : Nat} {e : TypeId} {A : Option Addr} {len cap s : Nat} (f : α → List Value) (good : α → Prop) (hs : P.cellsOf e = s) (hs0 : 0 < s) (hx : ∀ cs, Rds P w n e cs → ∃ x, cs = f x ∧ good x) (h : SlR P w n e A len cap) :
    ∃ L : List α, Sl s f w A len L ∧ ∀ x ∈ L, good x := by
  subst hs
  obtain ⟨_, _, _, h0 | h0 | ⟨b, off, e1, hb, hi⟩⟩ := h
  · exact ⟨[], ⟨h0.symm, .inl h0⟩, by simp⟩
  · omega
  · obtain ⟨L, hl, hp⟩ := choose_list (p := fun i x => good x ∧ ∀ j v, (f x)[j]? = some v → w.cell? ⟨b, off + i * P.cellsOf e + j, none⟩ = some v) len (fun i hil => by
      obtain ⟨cs', h1, h2, h3⟩ := hi i hil
      obtain ⟨x, rfl, hg⟩ := hx cs' h3
      exact ⟨x, hg, h2⟩)
    refine ⟨L, ⟨hl, .inr ⟨b, off, e1, hb, fun k hk j v hv => (hp k hk).2 j v hv⟩⟩, fun x hxm => ?_⟩
    obtain ⟨i, hi, rfl⟩ := List.mem_iff_getElem.1 hxm
    exact (hp i hi).1
end Go.Proofs.Ytmmjofdienoobaa
