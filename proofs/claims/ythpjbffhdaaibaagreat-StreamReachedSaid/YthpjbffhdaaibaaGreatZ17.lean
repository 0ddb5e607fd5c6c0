/-
  What came in reads as data: its cells, leaf by leaf, whatever structs, arrays and slices it is made of.
  Contracts of the law's own functions: light, segments, same (chapter 24).
  What came in reads as a segment, a sender, a receiver (chapter 24).
-/
import Derived.Test.YthpjbffhdaaibaaGreatZ2
import Derived.WalkKit
import Derived.ProofKit
import Derived.OpenShut
import Derived.Deep.Slices
import Derived.ChangeArms
import Derived.Test.YthpjbffhdaaibaaGreatZ10
import Derived.Test.YthpjbffhdaaibaaGreatZ12
import Derived.Test.YthpjbffhdaaibaaGreatZ3
namespace Go.Proofs.YthpjbffhdaaibaaGreat
open Go.RowKit
set_option linter.unusedVariables false
/-- The parts of a type (offset, type): a struct's fields, an array's elements. -/
def parts (P : Program) (t : TypeId) : Option (List (Nat × TypeId)) :=
  match P.underlying t with
  | some (.struct fs) => some (fs.toList.map fun f => (f.offset, f.type))
  | some (.array m e) => some ((List.range m).map fun i => (i * P.cellsOf e, e))
  | _ => none
/-- Cells that read as data of a type. -/
def Rds (P : Program) (w : World) : Nat → TypeId → List Value → Prop
  | 0, _, _ => True
  | n + 1, t, cs =>
    match parts P t with
    | some ps => cs.length = P.cellsOf t ∧ ∀ p ∈ ps, Rds P w n p.2 ((cs.drop p.1).take (P.cellsOf p.2))
    | none =>
      match P.underlying t with
      | some (.int k) => ∃ z, cs = [.int k z] ∧ (Lit.int k z).wf = true
      | some .bool => ∃ b, cs = [.bool b]
      | some .string => ∃ s : ByteArray, cs = [.string s] ∧ s.size ≤ maxLen
      | some (.slice e) => ∃ (A : Option Addr) (len cap : Nat), cs = [.slice A len cap] ∧ len ≤ cap ∧ cap ≤ maxLen ∧
          (A = none → cap = 0) ∧ (len = 0 ∨ P.cellsOf e = 0 ∨ ∃ b off, A = some ⟨b, off, none⟩ ∧ b < w.heap.size ∧ ∀ i, i < len → ∃ cs' : List Value, cs'.length = P.cellsOf e ∧ (∀ j v, cs'[j]? = some v → w.cell? ⟨b, off + i * P.cellsOf e + j, none⟩ = some v) ∧ Rds P w n e cs')
      | _ => True
theorem add_none (a : Addr) (h : a.spot = none) (i : Nat) : a.add i = ⟨a.block, a.off + i, none⟩ := by
  obtain ⟨b, o, s⟩ := a
  subst h
  unfold Addr.add; split
  · rename_i h; subst h; rfl
  · rfl
theorem rds_of_trod {H : Type} {enc : TypeId × Value → H} {P : Program} {w : World} {base : Nat} {spare : Nat → Bool} {held : Bool} : ∀ (n fuel : Nat) (t : TypeId) (cs : List Value) (x : DataW H × List MemPlace),
    DataW.trod enc P w base spare held fuel t cs = some x → Rds P w n t cs
  | 0, _, _, _, _, _ => trivial
  | n + 1, fuel, t, cs, x, h => by
    unfold Rds parts
    cases ht : P.underlying t with
    | none => trivial
    | some ty =>
      cases ty with
      | struct fs =>
        obtain ⟨xs, m, _, _, hl, hxl, hf⟩ := DataW.trod_struct ht h
        refine ⟨hl, fun p hp => ?_⟩
        obtain ⟨f, hfm, rfl⟩ := List.mem_map.1 hp
        obtain ⟨i, hi, hif⟩ := List.mem_iff_getElem.1 hfm
        have hi' : i < fs.size := by simpa using hi
        have hx := hf i f (by rw [Array.getElem?_eq_getElem hi']; simpa using hif)
        rw [List.getElem?_eq_getElem (by omega)] at hx
        exact rds_of_trod n _ _ _ _ hx
      | array m e =>
        obtain ⟨xs, k, _, _, hl, hxl, hf⟩ := DataW.trod_array ht h
        refine ⟨hl, fun p hp => ?_⟩
        obtain ⟨i, him, rfl⟩ := List.mem_map.1 hp
        have hi : i < m := by simpa using him
        have hx := hf i hi
        rw [List.getElem?_eq_getElem (by omega)] at hx
        exact rds_of_trod n _ _ _ _ hx
      | int k =>
        obtain ⟨z, rfl, _, hw⟩ := DataW.trod_int ht h
        exact ⟨z, rfl, hw⟩
      | bool =>
        obtain ⟨b, rfl, _⟩ := DataW.trod_bool ht h
        exact ⟨b, rfl⟩
      | string =>
        obtain ⟨s, rfl, _, hs⟩ := DataW.trod_string ht h
        exact ⟨s, rfl, hs⟩
      | slice e =>
        rcases Go.Deep.open_slice ht h with ⟨rfl, _⟩ | ⟨a, len, cap, m, k, D, Pl, rfl, hb, hl, hm, hmm, _, hi⟩
        · exact ⟨none, 0, 0, rfl, Nat.le_refl _, Nat.zero_le _, (fun _ => rfl), .inl rfl⟩
        · refine ⟨some a, len, cap, rfl, hl, hm, (fun h => by cases h), ?_⟩
          by_cases h0 : len = 0
          · exact .inl h0
          by_cases hz : P.cellsOf e = 0
          · exact .inr (.inl hz)
          have hlm : len ≤ m := by rw [hmm]; split <;> omega
          have hspot : a.spot = none ∧ a.block < w.heap.size := by
            obtain ⟨cs', hc, _⟩ := hi 0 (by omega)
            obtain ⟨_, hcl, hat⟩ := World.cells?_some hc
            have h1 := hat 0 (by omega)
            rw [List.getElem?_eq_getElem (by omega)] at h1
            have e0 : (a.add (0 * P.cellsOf e)).add 0 = a := by simp [Addr.add]
            rw [e0] at h1
            exact ⟨World.cell?_spot h1, World.block_lt_of_cell? w a h1⟩
          refine .inr (.inr ⟨a.block, a.off, ?_, hspot.2, fun i hil => ?_⟩)
          · obtain ⟨b, o, s⟩ := a
            simp at hspot
            rw [hspot.1]
          · obtain ⟨cs', hc, ht'⟩ := hi i (by omega)
            obtain ⟨_, hcl, hat⟩ := World.cells?_some hc
            refine ⟨cs', hcl, fun j v hv => ?_, rds_of_trod n _ _ _ _ ht'⟩
            have hj := (List.getElem?_eq_some_iff.1 hv).1
            have h1 := hat j (by omega)
            rw [Go.Deep.add_add, add_none a hspot.1, hv, ← Nat.add_assoc] at h1
            exact h1
      | _ => trivial
/-- The leaves of a type, in the order of its cells. -/
def leaves (P : Program) : Nat → TypeId → List TypeId
  | 0, t => [t]
  | n + 1, t => match parts P t with
    | some ps => ps.flatMap fun p => leaves P n p.2
    | none => [t]
def laidB (P : Program) : Nat → TypeId → Bool
  | 0, _ => false
  | n + 1, t => match parts P t with
    | some ps => (ps.foldr (fun p (k : Option Nat) => match k with | some e => if p.1 + P.cellsOf p.2 = e ∧ (leaves P n p.2).length = P.cellsOf p.2 ∧ laidB P n p.2 = true ∧ ((parts P p.2).isSome || P.cellsOf p.2 == 1) = true then some p.1 else none | none => none) (some (P.cellsOf t))) == some 0
    | none => true
/-- Each cell reads as its leaf. -/
def Lvs (P : Program) (w : World) (n : Nat) : List TypeId → List Value → Prop
  | [], cs => cs = []
  | t :: ts, cs => ∃ v rest, cs = v :: rest ∧ (∃ m, n ≤ m ∧ Rds P w m t [v]) ∧ Lvs P w n ts rest
theorem Lvs.app {P : Program} {w : World} {n : Nat} : ∀ {ts us : List TypeId} {cs ds : List Value}, Lvs P w n ts cs → Lvs P w n us ds → Lvs P w n (ts ++ us) (cs ++ ds)
  | [], _, cs, _, h, k => by rw [show cs = [] from h]; exact k
  | t :: ts, _, cs, _, ⟨v, rest, e, hv, hr⟩, k => by rw [e]; exact ⟨v, _, rfl, hv, Lvs.app hr k⟩
theorem rds_more {P : Program} {w : World} : ∀ (n m : Nat) (t : TypeId) (cs : List Value), n ≤ m → Rds P w m t cs → Rds P w n t cs
  | 0, _, _, _, _, _ => trivial
  | n + 1, 0, _, _, h, _ => by omega
  | n + 1, m + 1, t, cs, h, hr => by
    unfold Rds at hr ⊢
    cases hp : parts P t with
    | some ps =>
      rw [hp] at hr
      exact ⟨hr.1, fun p hpm => rds_more n m _ _ (by omega) (hr.2 p hpm)⟩
    | none =>
      rw [hp] at hr
      cases ht : P.underlying t with
      | none => trivial
      | some ty =>
        rw [ht] at hr
        cases ty <;> first | exact hr | trivial | skip
        obtain ⟨A, len, cap, h1, h2, h3, h4, h5⟩ := hr
        refine ⟨A, len, cap, h1, h2, h3, h4, h5.imp id fun h5 => h5.imp id ?_⟩
        rintro ⟨b, off, e1, e2, e3⟩
        refine ⟨b, off, e1, e2, fun i hi => ?_⟩
        obtain ⟨cs', f1, f2, f3⟩ := e3 i hi
        exact ⟨cs', f1, f2, rds_more n m _ _ (by omega) f3⟩
theorem laid_fold {P : Program} {n e : Nat} : ∀ (ps : List (Nat × TypeId)) (o : Nat),
    ps.foldr (fun p (k : Option Nat) => match k with | some e => if p.1 + P.cellsOf p.2 = e ∧ (leaves P n p.2).length = P.cellsOf p.2 ∧ laidB P n p.2 = true ∧ ((parts P p.2).isSome || P.cellsOf p.2 == 1) = true then some p.1 else none | none => none) (some e) = some o →
    match ps with
    | [] => o = e
    | p :: rest => o = p.1 ∧ (leaves P n p.2).length = P.cellsOf p.2 ∧ laidB P n p.2 = true ∧ ((parts P p.2).isSome || P.cellsOf p.2 == 1) = true ∧ rest.foldr (fun p (k : Option Nat) => match k with | some e => if p.1 + P.cellsOf p.2 = e ∧ (leaves P n p.2).length = P.cellsOf p.2 ∧ laidB P n p.2 = true ∧ ((parts P p.2).isSome || P.cellsOf p.2 == 1) = true then some p.1 else none | none => none) (some e) = some (p.1 + P.cellsOf p.2)
  | [], o, h => by simpa using h.symm
  | p :: rest, o, h => by
    rw [List.foldr_cons] at h
    revert h
    cases hr : rest.foldr (fun p (k : Option Nat) => match k with | some e => if p.1 + P.cellsOf p.2 = e ∧ (leaves P n p.2).length = P.cellsOf p.2 ∧ laidB P n p.2 = true ∧ ((parts P p.2).isSome || P.cellsOf p.2 == 1) = true then some p.1 else none | none => none) (some e) with
    | none => intro h; cases h
    | some k =>
      intro h
      simp only at h
      split at h
      · rename_i hc
        injection h with h
        exact ⟨h.symm, hc.2.1, hc.2.2.1, hc.2.2.2, by rw [hc.1]; exact hr⟩
      · cases h
/-- Cells that read as data of a type read so leaf by leaf. -/
theorem lvs_of_rds {P : Program} {w : World} (d : Nat) : ∀ (n : Nat) (t : TypeId) (cs : List Value), laidB P n t = true → Rds P w (n + d) t cs → (parts P t = none → ∃ v, cs = [v]) → Lvs P w d (leaves P n t) cs
  | 0, _, _, h, _, _ => by simp [laidB] at h
  | n + 1, t, cs, h, hr, h1 => by
    unfold leaves
    unfold laidB at h
    cases hp : parts P t with
    | none =>
      obtain ⟨v, rfl⟩ := h1 hp
      exact ⟨v, [], rfl, ⟨n + 1 + d, by omega, hr⟩, rfl⟩
    | some ps =>
      rw [hp] at h
      rw [show n + 1 + d = (n + d) + 1 by omega] at hr
      unfold Rds at hr
      rw [hp] at hr
      obtain ⟨hl, hall⟩ := hr
      have h' := eq_of_beq h
      have key : ∀ (qs : List (Nat × TypeId)) (o : Nat), (∀ p ∈ qs, Rds P w (n + d) p.2 ((cs.drop p.1).take (P.cellsOf p.2))) →
          qs.foldr (fun p (k : Option Nat) => match k with | some e => if p.1 + P.cellsOf p.2 = e ∧ (leaves P n p.2).length = P.cellsOf p.2 ∧ laidB P n p.2 = true ∧ ((parts P p.2).isSome || P.cellsOf p.2 == 1) = true then some p.1 else none | none => none) (some (P.cellsOf t)) = some o →
          o ≤ cs.length ∧ Lvs P w d (qs.flatMap fun p => leaves P n p.2) (cs.drop o) := by
        intro qs
        induction qs with
        | nil =>
          intro o _ hf
          have := laid_fold _ _ hf
          simp only at this
          subst this
          refine ⟨by omega, ?_⟩
          show cs.drop _ = []
          rw [← hl, List.drop_length]
        | cons p rest ih =>
          intro o ha hf
          obtain ⟨ho, hlen, hlb, hone, hrest⟩ := laid_fold _ _ hf
          subst ho
          obtain ⟨hle, hrs⟩ := ih _ (fun q hq => ha q (List.mem_cons_of_mem _ hq)) hrest
          refine ⟨by omega, ?_⟩
          have hp1 := ha p List.mem_cons_self
          have hsz : ((cs.drop p.1).take (P.cellsOf p.2)).length = P.cellsOf p.2 := by rw [List.length_take, List.length_drop]; omega
          have := lvs_of_rds d n p.2 _ hlb hp1 (fun hn => by
            have h2 : P.cellsOf p.2 = 1 := by rw [hn] at hone; simpa using hone
            rw [h2] at hsz
            exact List.length_eq_one_iff.1 (by rw [h2]; exact hsz))
          rw [List.flatMap_cons]
          have e : cs.drop p.1 = (cs.drop p.1).take (P.cellsOf p.2) ++ cs.drop (p.1 + P.cellsOf p.2) := by
            rw [← List.drop_drop, List.take_append_drop]
          rw [e]
          exact this.app hrs
      have := (key ps 0 hall h').2
      simpa using this
/-- A slice that came in, of elements that read as data. -/
def SlR (P : Program) (w : World) (n : Nat) (e : TypeId) (A : Option Addr) (len cap : Nat) : Prop :=
  len ≤ cap ∧ cap ≤ maxLen ∧ (A = none → cap = 0) ∧ (len = 0 ∨ P.cellsOf e = 0 ∨ ∃ b off, A = some ⟨b, off, none⟩ ∧ b < w.heap.size ∧ ∀ i, i < len → ∃ cs' : List Value, cs'.length = P.cellsOf e ∧ (∀ j v, cs'[j]? = some v → w.cell? ⟨b, off + i * P.cellsOf e + j, none⟩ = some v) ∧ Rds P w n e cs')
section
variable {P : Program} {w : World} {n : Nat} {t : TypeId} {v : Value}
theorem lvs_of (t : TypeId) (n d : Nat) {cs : List Value} (hs : (parts P t).isSome = true) (hl : laidB P n t = true) (h : Rds P w (n + d) t cs) : Lvs P w d (leaves P n t) cs :=
  lvs_of_rds d n t cs hl h (fun hn => by rw [hn] at hs; cases hs)
theorem leaf_int {k : IntKind} (hu : P.underlying t = some (.int k)) (h : ∃ m, n + 1 ≤ m ∧ Rds P w m t [v]) : ∃ z, v = .int k z ∧ (Lit.int k z).wf = true := by
  obtain ⟨m, hm, h⟩ := h
  obtain ⟨m, rfl⟩ : ∃ m', m = m' + 1 := ⟨m - 1, by omega⟩
  have hp : parts P t = none := by unfold parts; rw [hu]
  unfold Rds at h
  rw [hp, hu] at h
  obtain ⟨z, hz, hw⟩ := h
  exact ⟨z, by simpa using hz, hw⟩
theorem leaf_bool (hu : P.underlying t = some .bool) (h : ∃ m, n + 1 ≤ m ∧ Rds P w m t [v]) : ∃ b, v = .bool b := by
  obtain ⟨m, hm, h⟩ := h
  obtain ⟨m, rfl⟩ : ∃ m', m = m' + 1 := ⟨m - 1, by omega⟩
  have hp : parts P t = none := by unfold parts; rw [hu]
  unfold Rds at h
  rw [hp, hu] at h
  obtain ⟨b, hb⟩ := h
  exact ⟨b, by simpa using hb⟩
theorem leaf_string (hu : P.underlying t = some .string) (h : ∃ m, n + 1 ≤ m ∧ Rds P w m t [v]) : ∃ s : ByteArray, v = .string s ∧ s.size ≤ maxLen := by
  obtain ⟨m, hm, h⟩ := h
  obtain ⟨m, rfl⟩ : ∃ m', m = m' + 1 := ⟨m - 1, by omega⟩
  have hp : parts P t = none := by unfold parts; rw [hu]
  unfold Rds at h
  rw [hp, hu] at h
  obtain ⟨s, hs, hm⟩ := h
  exact ⟨s, by simpa using hs, hm⟩
theorem leaf_slice {e : TypeId} (hu : P.underlying t = some (.slice e)) (h : ∃ m, n + 1 ≤ m ∧ Rds P w m t [v]) : ∃ A len cap, v = .slice A len cap ∧ SlR P w n e A len cap := by
  obtain ⟨m, hm, h⟩ := h
  obtain ⟨m, rfl⟩ : ∃ m', m = m' + 1 := ⟨m - 1, by omega⟩
  have hp : parts P t = none := by unfold parts; rw [hu]
  have h := rds_more (n + 1) (m + 1) _ _ hm h
  unfold Rds at h
  rw [hp, hu] at h
  obtain ⟨A, len, cap, h1, h2⟩ := h
  exact ⟨A, len, cap, by simpa using h1, h2⟩
end
theorem choose_list {α : Type} {p : Nat → α → Prop} : ∀ (n : Nat), (∀ i, i < n → ∃ x, p i x) → ∃ L : List α, L.length = n ∧ ∀ i (h : i < L.length), p i L[i]
  | 0, _ => ⟨[], rfl, fun i h => absurd h (Nat.not_lt_zero _)⟩
  | n + 1, h => by
    obtain ⟨L, hl, hp⟩ := choose_list n (fun i hi => h i (by omega))
    obtain ⟨x, hx⟩ := h n (by omega)
    refine ⟨L ++ [x], by simp [hl], fun i hi => ?_⟩
    by_cases e : i < L.length
    · rw [List.getElem_append_left e]; exact hp i e
    · have : i = n := by simp at hi; omega
      subst this
      rw [List.getElem_append_right (by omega)]
      simpa [hl] using hx
/-- Such a slice holds a list. -/
theorem SlR.sl {α : Type} {P : Program} {w : World} {n : Nat} {e : TypeId} {A : Option Addr} {len cap s : Nat} (f : α → List Value) (good : α → Prop) (hs : P.cellsOf e = s) (hs0 : 0 < s) (hx : ∀ cs, Rds P w n e cs → ∃ x, cs = f x ∧ good x) (h : SlR P w n e A len cap) :
    ∃ L : List α, Sl s f w A len L ∧ ∀ x ∈ L, good x := by
  subst hs
  obtain ⟨_, _, _, h0 | h0 | ⟨b, off, e1, hb, hi⟩⟩ := h
  · exact ⟨[], ⟨h0.symm, .inl h0⟩, by simp⟩
  · omega
  · obtain ⟨L, hl, hp⟩ := choose_list (p := fun i x => good x ∧ ∀ j v, (f x)[j]? = some v → w.cell? ⟨b, off + i * P.cellsOf e + j, none⟩ = some v) len (fun i hil => by
      obtain ⟨cs', h1, h2, h3⟩ := hi i hil
      obtain ⟨x, rfl, hg⟩ := hx cs' h3
      exact ⟨x, hg, h2⟩)
    refine ⟨L, ⟨hl, .inr ⟨b, off, e1, hb, fun k hk j v hv => (hp k hk).2 j v hv⟩⟩, fun x hxm => ?_⟩
    obtain ⟨i, hi, rfl⟩ := List.mem_iff_getElem.1 hxm
    exact (hp i hi).1
end Go.Proofs.YthpjbffhdaaibaaGreat

set_option linter.unusedVariables false
set_option linter.unusedSimpArgs false
set_option maxRecDepth 100000
namespace Go.Proofs.YthpjbffhdaaibaaGreat
open Go.RowKit Go.BigFrame Go.Sort Go.Lib
namespace St
open Enc Uv Lg Lgc Strs
/-- A segment that came in: readable, of whatever length. -/
structure SgW (w : World) (x : SR) : Prop where
  sl : Sl 4 entC w x.A x.n x.es
  n : (x.n : Int) ≤ 9223372036854775807
  f : x.f < 18446744073709551616
  kn : x.kn < 18446744073709551616
  ok : ∀ e ∈ x.es, EntOK e
theorem SgW.held {w w' : World} {x : SR} (h : SgW w x) (k : Held w w') : SgW w' x := ⟨h.sl.held k, h.n, h.f, h.kn, h.ok⟩
/-- How much the law counts for the data of one entry. -/
theorem quo_bd (d : Nat) : ∃ x : Nat, (min (d : Int) 20000).tdiv 100 = (x : Int) ∧ x ≤ 200 := by
  have h1 : (min (d : Int) 20000).tdiv 100 = (min (d : Int) 20000) / 100 := Int.tdiv_eq_ediv_of_nonneg (by omega)
  refine ⟨((min (d : Int) 20000) / 100).toNat, by rw [h1]; omega, by omega⟩
/-- What 'light' says. -/
def LightTo (n : Nat) (L : List SR) (w : World) (e : Ending) (w' : World) : Prop := ∃ b, e = .returned (.bool b) ∧ (b = true → n ≤ 200 ∧ ∀ x ∈ L, x.n ≤ 200) ∧ Held w w'
set_option maxHeartbeats 2000000 in
theorem light_any (A : Option Addr) (n cap : Nat) (L : List SR) (w : World) (h : Sl 3 segC w A n L) (hg : ∀ x ∈ L, SgW w x) (hn : (n : Int) ≤ 9223372036854775807) :
    Calls Tryz.prog 5 #[.slice A n cap] w (LightTo n L w) := by
  have HS := Lib.hid h
  have HG := Lib.hid hg
  have HL : Is L.length n := ⟨h.1⟩
  clear h hg
  go_enter Tryz.func5, Tryz.ntmps5
  go_wp2
  go_loopw [3, 4] (fun c i wr => ∃ (q : Nat) (N : Nat), c = .int .i64 (N : Int) ∧ i = .int .i64 (q : Int) ∧ q ≤ n ∧ q ≤ N ∧ N ≤ 1000 ∧ (N ≤ 200 → ∀ k (x : SR), k < q → L[k]? = some x → x.n ≤ 200) ∧ Held w wr) (fun _ i _ => n - (RowKit.intOf i).toNat)
  case atStart => exact ⟨0, 0, rfl, rfl, Nat.zero_le _, Nat.zero_le _, by omega, fun _ k x hk => by omega, Held.refl _⟩
  case round =>
    obtain ⟨q, N, rfl, rfl, hq, hqN, hN, hall, hh⟩ := hrel
    have HH := Lib.hid hh
    have HA := Lib.hid hall
    clear hh hall
    by_cases hlt : q < n
    · have z2 : (q : Int) < n := by omega
      have z3 : (0 : Int) ≤ q := by omega
      by_cases hN2 : N ≤ 200
      · have y2 : (N : Int) ≤ 200 := by omega
        obtain ⟨b1, off, f', kn', A', n', cap', es', rfl, hb1, hx, x0, x1, x2⟩ := segAt HS.out HH.out (k := q) hlt
        have SG := Lib.hid (HG.out _ (List.mem_of_getElem? hx))
        have HX := Lib.hid hx
        clear hx
        obtain ⟨M, hM, hM1, hM2, hM3⟩ : ∃ M : Nat, (N : Int) + 1 + min (n' : Int) 201 = (M : Int) ∧ N + 1 ≤ M ∧ M ≤ 402 ∧ (M ≤ 200 → n' ≤ 200) := ⟨N + 1 + min n' 201, by omega, by omega, by omega, by omega⟩
        have hn9 := SG.out.n
        simp only at hn9
        have HEQ := Lib.hid (show Value.int .i64 ((N : Int) + 1 + min (n' : Int) 201) = .int .i64 (M : Int) by rw [hM])
        clear hM
        go_wp2
        go_loopw [3, 5] (fun c k wr => ∃ (p : Nat) (N' : Nat), c = .int .i64 (N' : Int) ∧ k = .int .i64 (p : Int) ∧ p ≤ n' ∧ M ≤ N' ∧ N' ≤ 1000 ∧ Held w wr) (fun _ k _ => n' - (RowKit.intOf k).toNat)
        case atStart => exact ⟨0, M, HEQ.out, rfl, Nat.zero_le _, Nat.le_refl _, by omega, HH.out⟩
        case round =>
          obtain ⟨p, N', rfl, rfl, hp, hMN, hN', hh2⟩ := hrel
          have HH2 := Lib.hid hh2
          have HX2 := Lib.hid (segAt HS.out hh2 (k := q) hlt)
          obtain ⟨b1', off', f2, kn2, A2, n2, cap2, es2, e0, hb2, hx2, x0', x1', x2'⟩ := HX2.out
          have e1 := HX.out
          rw [hx2] at e1
          injection e1 with e1
          injection e1 with e1 e2 e3 e4 e5 e6
          subst e1 e2 e3 e4 e5 e6
          injection e0 with e0
          injection e0 with e0 e9
          subst e0 e9
          clear HX2 hx2 hh2 x0 x1 x2 hb2
          by_cases hpl : p < n2
          · have w2 : (p : Int) < n2 := by omega
            have w3 : (0 : Int) ≤ p := by omega
            by_cases hN3 : N' ≤ 200
            · have y3 : (N' : Int) ≤ 200 := by omega
              obtain ⟨b3, o3, t, kk, nn, d, rfl, hb3, hy, v0, v1, v2, v3⟩ := entAt SG.out.sl HH2.out (k := p) hpl
              have hdb : (d.size : Int) ≤ 9223372036854775807 := (SG.out.ok _ (List.mem_of_getElem? hy)).d
              obtain ⟨x9, hx9, hx91⟩ := quo_bd d.size
              obtain ⟨K, hK⟩ : ∃ K : Nat, (N' : Int) + (x9 : Int) = (K : Int) := ⟨N' + x9, by omega⟩
              have hK2 : N' ≤ K := by omega
              have hK3 : K ≤ 1000 := by omega
              have HEK := Lib.hid (show Value.int .i64 ((N' : Int) + (x9 : Int)) = .int .i64 (K : Int) by rw [hK])
              have hx9c : (x9 : Int) ≤ 200 := by omega
              clear hy hK
              go_wp2
              go_roundw
              case rel => exact ⟨p + 1, K, HEK.out, by go_num, by omega, by omega, hK3, HH2.out⟩
              case measure => (simp [RowKit.intOf]) <;> omega
            · have y3 : ¬ (N' : Int) ≤ 200 := by omega
              go_wp2
              go_roundw
              case rel => exact ⟨q + 1, N', rfl, by go_num, by omega, by omega, hN', fun h => by omega, HH2.out⟩
              case measure => (simp [RowKit.intOf]) <;> omega
          · obtain rfl : p = n2 := by omega
            have w2 : ¬ (p : Int) < p := by omega
            go_wp2
            go_roundw
            case rel =>
              refine ⟨q + 1, N', rfl, by go_num, by omega, by omega, hN', fun h k x hk hx => ?_, HH2.out⟩
              by_cases e : k < q
              · exact HA.out (by omega) k x e hx
              · obtain rfl : k = q := by omega
                rw [HX.out] at hx
                injection hx with hx
                subst hx
                exact hM3 (by omega)
            case measure => (simp [RowKit.intOf]) <;> omega
      · have y2 : ¬ (N : Int) ≤ 200 := by omega
        go_wp2
        go_ret
        exact ⟨_, rfl, fun h => by simp at h, HH.out⟩
    · obtain rfl : q = n := by omega
      have z2 : ¬ (q : Int) < q := by omega
      go_wp2
      go_ret
      refine ⟨_, rfl, fun h => ?_, HH.out⟩
      have hN2 : N ≤ 200 := by have := of_decide_eq_true h; omega
      refine ⟨by omega, fun x hx => ?_⟩
      obtain ⟨k, hk, rfl⟩ := List.getElem_of_mem hx
      exact HA.out hN2 k _ (by rw [← HL.out]; exact hk) (List.getElem?_eq_getElem hk)
/-- The segments of early arrivals. -/
def SgsTo (L : List SR) (w : World) (e : Ending) (w' : World) : Prop := ∃ A n cap, e = .returned (.slice A n cap) ∧ Own 25 3 segC w.heap.size w' (.slice A n cap) L ∧ Held w w'
set_option maxHeartbeats 2000000 in
theorem segs_any (A : Option Addr) (n cap : Nat) (L : List ErR) (w : World) (h : Sl 4 erC w A n L) (hn : n ≤ 200) :
    Calls Tryz.prog 6 #[.slice A n cap] w (SgsTo (L.map ErR.x) w) := by
  have HS := Lib.hid h
  have HL : Is L.length n := ⟨h.1⟩
  clear h
  have M0 := Lib.hid ((Mem.start w).nilRow (e := 25) (s := 3) (f := segC))
  go_enter Tryz.func6, Tryz.ntmps6
  go_wp2
  go_loopw [3, 4] (fun v i wr => ∃ (q : Nat), i = .int .i64 (q : Int) ∧ q ≤ n ∧ Mem w wr [.row 25 3 segC w.heap.size v ((L.take q).map ErR.x)]) (fun _ i _ => n - (RowKit.intOf i).toNat)
  case atStart => exact ⟨0, rfl, Nat.zero_le _, M0.out⟩
  case round =>
    obtain ⟨q, rfl, hq, hM⟩ := hrel
    obtain ⟨A2, cap2, rfl, hcap2, _⟩ := (hM.row 0 rfl).shape
    have hRQ : ((L.take q).map ErR.x).length = q := by rw [List.length_map, List.length_take, HL.out]; omega
    have HRQ : Is ((L.take q).map ErR.x).length q := ⟨hRQ⟩
    rw [hRQ] at hM hcap2 ⊢
    have M := Lib.hid hM
    clear hM M0 hRQ
    by_cases hlt : q < n
    · obtain ⟨b1, off, s', f', kn', A', n', cap', es', rfl, hb1, hx, x0, x1, x2, x3⟩ := erAt HS.out M.out.held (k := q) hlt
      have z2 : (q : Int) < n := by omega
      have z3 : (0 : Int) ≤ q := by omega
      have z4 : (q : Int) < 300 := by omega
      have hz := M.out.held.le
      have hne : ¬ b1 = wr.heap.size := by omega
      have HX := Lib.hid hx
      have M2 := Lib.hid (M.out.skip (.cells #[.int .u64 f', .int .u64 kn', .slice A' n' cap'] 25))
      clear hx hb1 hz
      go_wp2_with (at_builtin; refine Mem.wp_appC M2.out 0 rfl rfl _ _ _ rfl _ 40 Tryz.underlying26 info_seg rfl (by decide) segC_len segC_one ⟨f', kn', A', n', cap', es'⟩ ⟨wr.heap.size, 0, none⟩ 1 rfl rfl (cells_new _ rfl _ _) q HRQ.out (by omega) (by decide) ?_; intro g4 cp4 w4 M4' k4; have M4 := Lib.hid M4'; clear M4' k4)
      go_roundw
      case rel =>
        refine ⟨q + 1, by go_num, by omega, ?_⟩
        have hql : q < L.length := by rw [HL.out]; exact hlt
        have hLq : L[q] = ⟨s', f', kn', A', n', cap', es'⟩ := by have := HX.out; rw [List.getElem?_eq_getElem hql] at this; injection this
        rw [List.take_succ_eq_append_getElem hql, hLq, List.map_append]
        exact M4.out
      case measure => (simp [RowKit.intOf]) <;> omega
    · obtain rfl : q = n := by omega
      have z2 : ¬ (q : Int) < q := by omega
      go_wp2
      go_ret
      have e : L.take q = L := List.take_of_length_le (by rw [HL.out]; exact Nat.le_refl _)
      have hm := M.out
      rw [e] at hm
      exact ⟨_, _, _, rfl, hm.row 0 rfl, hm.held⟩
/-- Equal lists of strings. -/
theorem sameStr_any (A1 A2 : Option Addr) (n c1 c2 : Nat) (L : List ByteArray) (w : World) (h1 : Sl 1 stC w A1 n L) (h2 : Sl 1 stC w A2 n L) (hn : n ≤ 1000000) :
    Calls Tryz.prog 19 #[.slice A1 n c1, .slice A2 n c2] w (TrueTo w) := by
  have H1 := Lib.hid h1
  have H2 := Lib.hid h2
  clear h1 h2
  go_enter Tryz.func19, Tryz.ntmps19
  go_wp2
  go_loopw [5] (fun i wr => ∃ q : Nat, i = .int .i64 (q : Int) ∧ q ≤ n ∧ Held w wr) (fun i _ => n - (RowKit.intOf i).toNat)
  case atStart => exact ⟨0, rfl, Nat.zero_le _, Held.refl _⟩
  case round =>
    obtain ⟨q, rfl, hq, hh⟩ := hrel
    have HH := Lib.hid hh
    by_cases hlt : q < n
    · obtain ⟨b1, o1, x, rfl, _, hx, hxc⟩ := Sl.at_ H1.out hh (k := q) hlt
      obtain ⟨b2, o2, y, rfl, _, hy, hyc⟩ := Sl.at_ H2.out hh (k := q) hlt
      rw [hx] at hy
      injection hy with hy
      subst hy
      have x0 := hxc 0 _ rfl
      have y0 := hyc 0 _ rfl
      rw [Nat.add_zero, Nat.mul_one] at x0 y0
      have z2 : (q : Int) < n := by omega
      have z3 : (0 : Int) ≤ q := by omega
      have j0 : ¬ (q : Int) < 0 := by omega
      clear hx hh hxc hyc
      go_wp2
      go_big_quiet (fail)
      go_wp2
      go_roundw
      case rel => exact ⟨q + 1, by go_num, by omega, HH.out.step ((Held.refl _).drewN _)⟩
      case measure => (simp [RowKit.intOf]) <;> omega
    · obtain rfl : q = n := by omega
      have z2 : ¬ (q : Int) < q := by omega
      go_wp2
      go_ret
      exact ⟨rfl, hh⟩
end St
end Go.Proofs.YthpjbffhdaaibaaGreat

set_option linter.unusedVariables false
set_option linter.unusedSimpArgs false
set_option maxRecDepth 100000
namespace Go.Proofs.YthpjbffhdaaibaaGreat
open Go.RowKit Go.WideShapes Go.ChangeShapes Go.ChangeAt
namespace St
open Enc
section
variable {w : World} {d : Nat}
theorem nat_of {z : Int} (h : (Lit.int .u64 z).wf = true) : ∃ n : Nat, z = (n : Int) ∧ n < 18446744073709551616 := by
  have := Rw.bd_u64 h
  exact ⟨z.toNat, by omega, by omega⟩
theorem rd_ent {cs : List Value} (h : Rds Tryz.prog w (8 + (d + 1)) 70 cs) : ∃ x : Ent, cs = entC x ∧ EntOK x := by
  have hv := lvs_of 70 8 (d + 1) (by kernel_rfl) (by kernel_rfl) h
  rw [show leaves Tryz.prog 8 70 = [22, 3, 66, 9] by kernel_rfl] at hv
  obtain ⟨v0, _, rfl, h0, v1, _, rfl, h1, v2, _, rfl, h2, v3, _, rfl, h3, rfl⟩ := hv
  obtain ⟨t, rfl, w0⟩ := leaf_int Tryz.underlying22 h0
  obtain ⟨k, rfl, w1⟩ := leaf_int Tryz.underlying3 h1
  obtain ⟨n, rfl, w2⟩ := leaf_int Tryz.underlying66 h2
  obtain ⟨s, rfl, w3⟩ := leaf_string Tryz.underlying9 h3
  obtain ⟨t, rfl, ht⟩ := nat_of w0
  have b1 := Rw.bd_i64 w1
  have b2 := Rw.bd_u32 w2
  exact ⟨⟨t, k, n, s⟩, rfl, ht, b1.1, b1.2, b2.1, b2.2, by unfold maxLen at w3; simp only; omega⟩
theorem slR_none {P : Program} {n : Nat} {e : TypeId} {A : Option Addr} {len cap : Nat} (h : SlR P w n e A len cap) : (A = none → len = 0) ∧ len ≤ cap ∧ cap ≤ maxLen :=
  ⟨fun ha => by have := h.2.2.1 ha; have := h.1; omega, h.1, h.2.1⟩
theorem rd_seg {cs : List Value} (h : Rds Tryz.prog w (8 + (9 + (d + 1))) 25 cs) : ∃ x : SR, cs = segC x ∧ SgW w x := by
  have hv := lvs_of 25 8 (9 + (d + 1)) (by kernel_rfl) (by kernel_rfl) h
  rw [show leaves Tryz.prog 8 25 = [22, 22, 23] by kernel_rfl] at hv
  obtain ⟨v0, _, rfl, h0, v1, _, rfl, h1, v2, _, rfl, h2, rfl⟩ := hv
  obtain ⟨f, rfl, w0⟩ := leaf_int Tryz.underlying22 h0
  obtain ⟨k, rfl, w1⟩ := leaf_int Tryz.underlying22 h1
  obtain ⟨A, n, c, rfl, hs⟩ := leaf_slice (n := 8 + (d + 1)) Tryz.underlying23 (by obtain ⟨m, hm, hr⟩ := h2; exact ⟨m, by omega, hr⟩)
  obtain ⟨f, rfl, hf⟩ := nat_of w0
  obtain ⟨k, rfl, hk⟩ := nat_of w1
  obtain ⟨L, hL, hg⟩ := hs.sl entC (fun x => EntOK x) (s := 4) (by kernel_rfl) (by decide) (fun cs hr => rd_ent (d := d) hr)
  have := slR_none hs
  exact ⟨⟨f, k, A, n, c, L⟩, rfl, hL, by unfold maxLen at this; simp only; omega, hf, hk, hg⟩
theorem rd_er {cs : List Value} (h : Rds Tryz.prog w (8 + (9 + (d + 1))) 72 cs) : ∃ x : ErR, cs = erC x ∧ (SgW w x.x ∧ x.s < 18446744073709551616) := by
  have hv := lvs_of 72 8 (9 + (d + 1)) (by kernel_rfl) (by kernel_rfl) h
  rw [show leaves Tryz.prog 8 72 = [22, 22, 22, 23] by kernel_rfl] at hv
  obtain ⟨v9, _, rfl, h9, v0, _, rfl, h0, v1, _, rfl, h1, v2, _, rfl, h2, rfl⟩ := hv
  obtain ⟨s, rfl, w9⟩ := leaf_int Tryz.underlying22 h9
  obtain ⟨f, rfl, w0⟩ := leaf_int Tryz.underlying22 h0
  obtain ⟨k, rfl, w1⟩ := leaf_int Tryz.underlying22 h1
  obtain ⟨A, n, c, rfl, hs⟩ := leaf_slice (n := 8 + (d + 1)) Tryz.underlying23 (by obtain ⟨m, hm, hr⟩ := h2; exact ⟨m, by omega, hr⟩)
  obtain ⟨s, rfl, hs9⟩ := nat_of w9
  obtain ⟨f, rfl, hf⟩ := nat_of w0
  obtain ⟨k, rfl, hk⟩ := nat_of w1
  obtain ⟨L, hL, hg⟩ := hs.sl entC (fun x => EntOK x) (s := 4) (by kernel_rfl) (by decide) (fun cs hr => rd_ent (d := d) hr)
  have := slR_none hs
  exact ⟨⟨s, f, k, A, n, c, L⟩, rfl, ⟨hL, by unfold maxLen at this; simp only; omega, hf, hk, hg⟩, hs9⟩
end
/-- A sender that came in. -/
structure InSnd (w : World) (b t kn : Nat) (A : Option Addr) (n cap : Nat) (L : List SR) : Prop where
  sl : Sl 3 segC w A n L
  sg : ∀ x ∈ L, SgW w x
  no : A = none → n = 0
  nc : n ≤ cap
  cm : cap ≤ maxLen
  b : b < 18446744073709551616
  t : t < 18446744073709551616
  kn : kn < 18446744073709551616
/-- A receiver that came in. -/
structure InRcv (w : World) (b kn : Nat) (A : Option Addr) (n cap : Nat) (L : List ErR) : Prop where
  sl : Sl 4 erC w A n L
  sg : ∀ x ∈ L, SgW w x.x ∧ x.s < 18446744073709551616
  no : A = none → n = 0
  nc : n ≤ cap
  cm : cap ≤ maxLen
  b : b < 18446744073709551616
  kn : kn < 18446744073709551616
section
variable {H : Type} {enc : TypeId × Value → H} {w : World} {base : Nat} {spare : Nat → Bool} {held : Bool} {r : Reach} {b0 : Nat} {v : Value} {d : DataW H} {p : List MemPlace}
theorem agg_ofS {cs : Array Value} {l : List Value} (h : (Value.agg cs).cells.toList = l) : Value.agg cs = .agg l.toArray := by
  have : cs.toList = l := by simpa [Value.cells] using h
  rw [← this]
theorem in_seg (hv : Value.okWide Tryz.prog w r b0 25 v) (h : DataW.Trod enc Tryz.prog w base spare held 25 v d p) :
    ∃ x : SR, v = .agg #[.int .u64 x.f, .int .u64 x.kn, .slice x.A x.n x.cap] ∧ SgW w x := by
  obtain ⟨cs, rfl, _⟩ := okWide_struct Tryz.underlying25 hv
  obtain ⟨fuel, hf⟩ := h
  obtain ⟨x, e, hx⟩ := rd_seg (d := 0) (rds_of_trod 18 _ _ _ _ hf)
  exact ⟨x, agg_ofS e, hx⟩
theorem in_snd (hv : Value.okWide Tryz.prog w r b0 28 v) (h : DataW.Trod enc Tryz.prog w base spare held 28 v d p) :
    ∃ (b t kn : Nat) (A : Option Addr) (n cap : Nat) (L : List SR), v = .agg #[.int .u64 ((b : Nat) : Int), .int .u64 ((t : Nat) : Int), .int .u64 ((kn : Nat) : Int), .slice A n cap] ∧ InSnd w b t kn A n cap L := by
  obtain ⟨cs, rfl, _⟩ := okWide_struct Tryz.underlying28 hv
  obtain ⟨fuel, hf⟩ := h
  have hq := lvs_of 28 8 (18 + 1) (by kernel_rfl) (by kernel_rfl) (rds_of_trod 27 _ _ _ _ hf)
  rw [show leaves Tryz.prog 8 28 = [22, 22, 22, 26] by kernel_rfl] at hq
  obtain ⟨v0, _, e0, h0, v1, _, e1, h1, v2, _, e2, h2, v3, _, e3, h3, rfl⟩ := hq
  subst e3 e2 e1
  obtain ⟨b, rfl, w0⟩ := leaf_int Tryz.underlying22 h0
  obtain ⟨t, rfl, w1⟩ := leaf_int Tryz.underlying22 h1
  obtain ⟨k, rfl, w2⟩ := leaf_int Tryz.underlying22 h2
  obtain ⟨A, n, c, rfl, hs⟩ := leaf_slice (n := 18) Tryz.underlying26 h3
  obtain ⟨b, rfl, hb⟩ := nat_of w0
  obtain ⟨t, rfl, ht⟩ := nat_of w1
  obtain ⟨k, rfl, hk⟩ := nat_of w2
  obtain ⟨L, hL, hg⟩ := hs.sl segC (fun x => SgW w x) (s := 3) (by kernel_rfl) (by decide) (fun cs hr => rd_seg (d := 0) hr)
  have hn := slR_none hs
  exact ⟨b, t, k, A, n, c, L, agg_ofS e0, hL, hg, hn.1, hn.2.1, hn.2.2, hb, ht, hk⟩
theorem in_rcv (hv : Value.okWide Tryz.prog w r b0 31 v) (h : DataW.Trod enc Tryz.prog w base spare held 31 v d p) :
    ∃ b kn A n cap L, v = .agg #[.int .u64 ((b : Nat) : Int), .int .u64 ((kn : Nat) : Int), .slice A n cap] ∧ InRcv w b kn A n cap L := by
  obtain ⟨cs, rfl, _⟩ := okWide_struct Tryz.underlying31 hv
  obtain ⟨fuel, hf⟩ := h
  have hq := lvs_of 31 8 (18 + 1) (by kernel_rfl) (by kernel_rfl) (rds_of_trod 27 _ _ _ _ hf)
  rw [show leaves Tryz.prog 8 31 = [22, 22, 29] by kernel_rfl] at hq
  obtain ⟨v0, _, e0, h0, v1, _, e1, h1, v3, _, e3, h3, rfl⟩ := hq
  subst e3 e1
  obtain ⟨b, rfl, w0⟩ := leaf_int Tryz.underlying22 h0
  obtain ⟨k, rfl, w1⟩ := leaf_int Tryz.underlying22 h1
  obtain ⟨A, n, c, rfl, hs⟩ := leaf_slice (n := 18) Tryz.underlying29 h3
  obtain ⟨b, rfl, hb⟩ := nat_of w0
  obtain ⟨k, rfl, hk⟩ := nat_of w1
  obtain ⟨L, hL, hg⟩ := hs.sl erC (fun x => SgW w x.x ∧ x.s < 18446744073709551616) (s := 4) (by kernel_rfl) (by decide) (fun cs hr => rd_er (d := 0) hr)
  have hn := slR_none hs
  exact ⟨b, k, A, n, c, L, agg_ofS e0, hL, hg, hn.1, hn.2.1, hn.2.2, hb, hk⟩
end
/-- What is short enough can be read by all functions. -/
theorem SgW.sg {w : World} {x : SR} (h : SgW w x) (hn : x.n ≤ 200) : Sg w.heap.size w x := by
  refine ⟨h.sl, ?_, by omega, h.f, h.kn, h.ok⟩
  rcases h.sl.2 with h0 | ⟨b, off, e, hb, _⟩
  · exact .inl h0
  · exact .old fun a ha => by rw [e] at ha; injection ha with ha; subst ha; exact hb
end St
end Go.Proofs.YthpjbffhdaaibaaGreat
