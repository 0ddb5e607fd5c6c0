/-
  Contracts: put of the reference (chapter 41); what it makes of a sorted list.
-/
import Derived.Test.YtncgihbnfmpdbaaSnRf
set_option linter.unusedVariables false
set_option linter.unusedSimpArgs false
set_option maxRecDepth 100000
namespace Go.Proofs.Ytncgihbnfmpdbaa
open Go.RowKit Go.BigFrame
namespace Sn
/-- One round of put. -/
def putStep (b : Int) (s : ByteArray) (o : List Dl × Bool) (d : Dl) : List Dl × Bool :=
  let p : List Dl × Bool := if o.2 = false ∧ b ≤ d.b then (o.1 ++ [⟨b, s⟩], true) else o
  (if d.b = b then p.1 else p.1 ++ [d], p.2)
def putTo (ds : List Dl) (b : Int) (s : ByteArray) (is : Bool) (k : Nat) : List Dl × Bool := (ds.take k).foldl (putStep b s) ([], !is)
theorem putTo_next {ds : List Dl} {b : Int} {s : ByteArray} {is : Bool} {k : Nat} {d : Dl} (h : ds[k]? = some d) : putTo ds b s is (k + 1) = putStep b s (putTo ds b s is k) d := by
  unfold putTo; rw [take_snoc' h, List.foldl_append]; rfl
def putR (ds : List Dl) (b : Int) (s : ByteArray) (is : Bool) : List Dl := if (putTo ds b s is ds.length).2 then (putTo ds b s is ds.length).1 else (putTo ds b s is ds.length).1 ++ [⟨b, s⟩]
theorem putStep_len (b : Int) (s : ByteArray) (o : List Dl × Bool) (d : Dl) : (putStep b s o d).1.length ≤ o.1.length + 2 := by
  unfold putStep
  simp only
  split <;> split <;> simp <;> omega
theorem putTo_len (ds : List Dl) (b : Int) (s : ByteArray) (is : Bool) : ∀ k, (putTo ds b s is k).1.length ≤ 2 * k
  | 0 => by unfold putTo; simp
  | k + 1 => by
    cases h : ds[k]? with
    | none =>
      have : ds.take (k + 1) = ds.take k := by
        have := List.getElem?_eq_none_iff.1 h
        rw [List.take_of_length_le (by omega), List.take_of_length_le (by omega)]
      have h2 : putTo ds b s is (k + 1) = putTo ds b s is k := by unfold putTo; rw [this]
      rw [h2]; have := putTo_len ds b s is k; omega
    | some d =>
      rw [putTo_next h]
      have := putStep_len b s (putTo ds b s is k) d
      have := putTo_len ds b s is k
      omega
theorem put_inv {b : Int} {s : ByteArray} {is : Bool} : ∀ (ds : List Dl), Srt ds → (((ds.foldl (putStep b s) ([], !is)).2 = true ↔ is = false ∨ ∃ d ∈ ds, b ≤ d.b) ∧ (ds.foldl (putStep b s) ([], !is)).1 = below ds b ++ (if is && (ds.foldl (putStep b s) ([], !is)).2 then [⟨b, s⟩] else []) ++ above ds b) := by
  intro ds
  generalize hn : ds.length = n
  induction n generalizing ds with
  | zero =>
    intro _
    obtain rfl := List.eq_nil_of_length_eq_zero hn
    cases is <;> simp [below, above]
  | succ n ih =>
    intro hs
    obtain ⟨D, d, rfl⟩ : ∃ D d, ds = D ++ [d] := ⟨ds.dropLast, ds.getLast (by intro h; subst h; simp at hn), (List.dropLast_concat_getLast _).symm⟩
    have hp := List.pairwise_append.1 hs
    have hlt : ∀ e ∈ D, e.b < d.b := fun e he => hp.2.2 e he d (by simp)
    obtain ⟨h1, h2⟩ := ih D (by simpa using hn) hp.1
    rw [List.foldl_append]
    generalize D.foldl (putStep b s) ([], !is) = o at h1 h2
    obtain ⟨o1, o2⟩ := o
    simp only at h1 h2
    have hbel : below (D ++ [d]) b = below D b ++ (if d.b < b then [d] else []) := by unfold below; rw [List.filter_append]; by_cases e : d.b < b <;> simp [e]
    have habo : above (D ++ [d]) b = above D b ++ (if b < d.b then [d] else []) := by unfold above; rw [List.filter_append]; by_cases e : b < d.b <;> simp [e]
    have hno : (∀ e ∈ D, e.b < b) → above D b = [] := fun q => by unfold above; rw [List.filter_eq_nil_iff]; intro e he; have := q e he; simp; omega
    rw [hbel, habo]
    simp only [List.foldl_cons, List.foldl_nil]
    unfold putStep
    rcases Int.lt_trichotomy d.b b with c | c | c
    · have n1 : ¬ b ≤ d.b := by omega
      have n2 : ¬ d.b = b := by omega
      have n3 : ¬ b < d.b := by omega
      have ha := hno fun e he => by have := hlt e he; omega
      have ho2 : is = true → o2 = false := fun hi => by
        cases o2 with
        | false => rfl
        | true =>
          rcases h1.1 rfl with q | ⟨e, he, q⟩
          · rw [hi] at q; cases q
          · have := hlt e he; omega
      simp only [n1, n2, n3, c, and_false, if_false, if_true, ha] at h2 ⊢
      refine ⟨?_, ?_⟩
      · rw [h1]
        constructor
        · rintro (q | ⟨e, he, q⟩)
          · exact .inl q
          · exact .inr ⟨e, by simp [he], q⟩
        · rintro (q | ⟨e, he, q⟩)
          · exact .inl q
          · rcases List.mem_append.1 he with he | he
            · exact .inr ⟨e, he, q⟩
            · rw [List.mem_singleton] at he; subst he; omega
      · rw [h2]
        cases is
        · simp
        · rw [ho2 rfl]; simp
    all_goals
      have ht : (is = false ∨ ∃ e ∈ D ++ [d], b ≤ e.b) := .inr ⟨d, by simp, by omega⟩
      have n0 : b ≤ d.b := by omega
      have n1 : ¬ d.b < b := by omega
      cases o2 with
      | true =>
        first
          | (have n2 : ¬ b < d.b := by omega
             simp only [n0, n1, n2, c, if_true, if_false, Bool.true_eq_false, false_and] at h2 ⊢
             refine ⟨⟨fun _ => ht, fun _ => trivial⟩, ?_⟩
             rw [h2]; simp)
          | (have n2 : ¬ d.b = b := by omega
             simp only [n0, n1, n2, c, if_true, if_false, Bool.true_eq_false, false_and] at h2 ⊢
             refine ⟨⟨fun _ => ht, fun _ => trivial⟩, ?_⟩
             rw [h2]; simp)
      | false =>
        have hnot : ¬ (is = false ∨ ∃ e ∈ D, b ≤ e.b) := fun q => by have := h1.2 q; cases this
        have hi : is = true := by cases is with | true => rfl | false => exact absurd (.inl rfl) hnot
        have ha := hno fun e he => Decidable.byContradiction fun q => hnot (.inr ⟨e, he, by omega⟩)
        first
          | (have n2 : ¬ b < d.b := by omega
             simp only [n0, n1, n2, c, if_true, if_false, ha, hi, Int.le_refl, and_self] at h2 ⊢
             refine ⟨⟨fun _ => hi ▸ ht, fun _ => trivial⟩, ?_⟩
             rw [h2]; simp)
          | (have n2 : ¬ d.b = b := by omega
             simp only [n0, n1, n2, c, if_true, if_false, ha, hi, Int.le_refl, and_self] at h2 ⊢
             refine ⟨⟨fun _ => hi ▸ ht, fun _ => trivial⟩, ?_⟩
             rw [h2]; simp)
theorem putR_eq {ds : List Dl} (h : Srt ds) (b : Int) (s : ByteArray) (is : Bool) : putR ds b s is = putD ds b s is := by
  have he : putTo ds b s is ds.length = ds.foldl (putStep b s) ([], !is) := by unfold putTo; rw [List.take_length]
  obtain ⟨h1, h2⟩ := put_inv (b := b) (s := s) (is := is) ds h
  unfold putR putD
  rw [he, h2]
  by_cases c : (ds.foldl (putStep b s) ([], !is)).2 = true
  · rw [if_pos c, c, Bool.and_true]
  · have hno : ¬ (is = false ∨ ∃ d ∈ ds, b ≤ d.b) := fun q => c (h1.2 q)
    have hi : is = true := by cases is with | true => rfl | false => exact absurd (.inl rfl) hno
    have ha : above ds b = [] := by
      unfold above; rw [List.filter_eq_nil_iff]; intro e he2
      have : ¬ b ≤ e.b := fun q => hno (.inr ⟨e, he2, q⟩)
      simp; omega
    rw [if_neg c, ha, hi]
    simp only [Bool.not_eq_true] at c
    rw [hi] at c
    rw [c]; simp
end Sn
end Go.Proofs.Ytncgihbnfmpdbaa
