/-
  A law over any program: a region that draws its order and ends in one operation for which all others wait: a condition on the world that is asked behind each of the others only.
-/
import Derived.Test.YtncgihbnfmpdbaaRd
import Derived.OrdersHeld
import Derived.StillTail
import Derived.Deep.RegionHeld
set_option linter.unusedVariables false
namespace Go.Proofs.Ytncgihbnfmpdbaa
open Go
section
variable {P : Program} {ops : Array Oper} {Q : Exit → Act → World → Prop} {S : World → Prop}
/-- In whatever order; behind every operation but number n the condition holds. -/
def AnyT (P : Program) (ops : Array Oper) (Q : Exit → Act → World → Prop) (S : World → Prop) (n : Nat) : Nat → Array Bool → Act → World → Prop
  | 0, l, a, w => Region.ready .any ops l = [] ∧ Q .normal a w
  | f + 1, l, a, w => (Region.ready .any ops l = [] → Q .normal a w) ∧ ∀ i, i ∈ Region.ready .any ops l → wpOp P ops Q i (fun a' w' => (i = n ∨ S w') ∧ AnyT P ops Q S n f (l.setIfInBounds i true) a' w') a w
theorem AnyT.any {n : Nat} : ∀ (f : Nat) (l : Array Bool) (a : Act) (w : World), AnyT P ops Q S n f l a w → wpAny P .any ops Q f l a w := by
  intro f
  induction f with
  | zero => exact fun _ _ _ h => h
  | succ f ih =>
    intro l a w h
    refine ⟨h.1, fun i hi => wpOp_mono ?_ (h.2 i hi)⟩
    rintro a' w' ⟨_, h'⟩
    exact ih _ a' w' h'
theorem AnyT.first {n i : Nat} {oi : Oper} {v : Value} (hi : ops[i]? = some oi) (hsel : Region.noSelect ops = true) (hin : i < n) (hn : n < ops.size) (hs : Region.sinkB .any ops n = true) (hc : Region.chainB .any ops n = true)
    (hQ : ∀ c a w, Q (.panic c) (a.put oi.dst v) w → Q (.panic c) a w) (f : Nat) : ∀ (l : Array Bool) (a : Act) (w : World), HeadInv .any ops n l →
      (∀ j oj, ops[j]? = some oj → j ≠ i → l.getD j true = false → (∀ e ∈ oj.after, Region.binds .any e = true → e.on ≠ i) → oi.apart ops oj = true) →
      i ∈ Region.ready .any ops l → YieldsIf P ops S oi v a → S w → AnyT P ops Q S n f (l.setIfInBounds i true) (a.put oi.dst v) w → AnyT P ops Q S n (f + 1) l a w := by
  have nosel := Region.noSelect_spec hsel
  have here : ∀ (f : Nat) (l : Array Bool) (a : Act) (w : World), YieldsIf P ops S oi v a → S w → AnyT P ops Q S n f (l.setIfInBounds i true) (a.put oi.dst v) w → wpOp P ops Q i (fun a' w' => (i = n ∨ S w') ∧ AnyT P ops Q S n f (l.setIfInBounds i true) a' w') a w :=
    fun f l a w hy hS h => hy.wpOp hi hS ⟨.inr hS, h⟩
  induction f with
  | zero =>
    intro l a w _ _ hr hy hS h
    refine ⟨fun h0 => by rw [h0] at hr; exact absurd hr List.not_mem_nil, fun j hj => ?_⟩
    by_cases e : j = i
    · rw [e]; exact here 0 l a w hy hS h
    · have := ready_mono hj e
      rw [h.1] at this
      exact absurd this List.not_mem_nil
  | succ f ih =>
    intro l a w inv hfree hr hy hS h
    refine ⟨fun h0 => by rw [h0] at hr; exact absurd hr List.not_mem_nil, fun j hj => ?_⟩
    by_cases e : j = i
    · rw [e]; exact here (f + 1) l a w hy hS h
    obtain ⟨hil, oi', hoi', _⟩ := mem_ready.1 hr
    obtain ⟨hjl, oj, hoj, hall⟩ := mem_ready.1 hj
    have hjn : j < n := Nat.lt_of_not_le fun hle => tail_waits hs hc hn inv (n - i) i rfl hin hil j hle hj
    have hno : ∀ e ∈ oj.after, Region.binds .any e = true → e.on ≠ i := fun e he hb q => by
      have h1 := hall e he hb
      rw [q, getD_both hil] at h1
      cases h1
    have key := wpOp_putIf (S := S) hoj (hfree j oj hoj e hjl hno) (fun cs b => nosel i oi cs b hi) (fun cs b => nosel j oj cs b hoj) hQ hy (h.2 j (ready_mono hj e))
    refine wpOp_mono ?_ key
    rintro a' w' ⟨hy', hS', h'⟩
    have hSw : S w' := hS'.resolve_left (by omega)
    refine ⟨.inr hSw, ih (l.setIfInBounds j true) a' w' (inv.set hj hjn) ?_ (ready_mono hr (fun q => e q.symm)) hy' hSw ?_⟩
    · intro k ok hk hki hun hno'
      refine hfree k ok hk hki ?_ hno'
      by_cases q : j = k
      · rw [← q]; exact hjl
      · rw [getD_set_ne true q] at hun; exact hun
    · rw [Array.setIfInBounds_comm _ _ e]; exact h'
/-- The operations that have come up: none of them before what it waits for, none of the tail. -/
def headB (ops : Array Oper) (n : Nat) (l : Array Bool) : Bool :=
  l.size == ops.size && (List.range ops.size).all (fun j => !l.getD j false || ((ops[j]?).map fun o => o.after.all fun e => !Region.binds .any e || l.getD e.on false).getD true) && (List.range ops.size).all (fun t => decide (t < n) || !l.getD t true)
theorem headB_spec {n : Nat} {l : Array Bool} (h : headB ops n l = true) : HeadInv .any ops n l := by
  unfold headB at h
  simp only [Bool.and_eq_true, beq_iff_eq, List.all_eq_true, List.mem_range] at h
  obtain ⟨⟨h1, h2⟩, h3⟩ := h
  refine ⟨h1, fun j oj hj hl e he hb => ?_, fun t ht hlt => ?_⟩
  · have := h2 j (Array.getElem?_eq_some_iff.1 hj).1
    rw [hl, hj] at this
    simp only [Bool.not_true, Bool.false_or, Option.map_some, Option.getD_some] at this
    have := (Array.all_eq_true_iff_forall_mem.1 this) e he
    rw [hb] at this
    simpa using this
  · have := h3 t hlt
    simp only [Bool.or_eq_true, decide_eq_true_eq] at this
    rcases this with q | q
    · omega
    · simpa using q
/-- Number i is taken first. -/
theorem AnyT.take {n i f : Nat} {oi : Oper} {v : Value} {l : Array Bool} {a : Act} {w : World} (hi : ops[i]? = some oi) (hsel : Region.noSelect ops = true)
    (hT : (decide (i < n) && decide (n < ops.size) && Region.sinkB .any ops n && Region.chainB .any ops n && headB ops n l && Region.free .any ops l i && (Region.ready .any ops l).contains i) = true)
    (hQ : ∀ c a w, Q (.panic c) (a.put oi.dst v) w → Q (.panic c) a w) (hy : YieldsIf P ops S oi v a) (hS : S w)
    (h : AnyT P ops Q S n f (l.setIfInBounds i true) (a.put oi.dst v) w) : AnyT P ops Q S n (f + 1) l a w := by
  simp only [Bool.and_eq_true, decide_eq_true_eq] at hT
  obtain ⟨⟨⟨⟨⟨⟨h1, h2⟩, h3⟩, h4⟩, h5⟩, h6⟩, h7⟩ := hT
  exact AnyT.first hi hsel h1 h2 h3 h4 hQ f l a w (headB_spec h5) (Region.free_spec hi h6) (by simpa using h7) hy hS h
/-- Number i is all that may come up. -/
theorem AnyT.only {n i f : Nat} {o : Oper} {l : Array Bool} {a : Act} {w : World} (hi : ops[i]? = some o) (hr : Region.ready .any ops l = [i])
    (h : ∀ K : Act → World → Prop, Shut (∀ a' w', (i = n ∨ S w') → AnyT P ops Q S n f (l.setIfInBounds i true) a' w' → K a' w') → if Region.wanted o (yielded ops a.tmps) = true then Oper.wp P o a w K Q else K (a.put o.dst undef) w) : AnyT P ops Q S n (f + 1) l a w := by
  refine ⟨fun h0 => (by rw [hr] at h0; cases h0), fun j hj => ?_⟩
  rw [hr, List.mem_singleton] at hj
  subst hj
  exact wpOp_step hi fun K hK => h K fun a' w' h1 h2 => hK a' w' ⟨h1, h2⟩
theorem AnyT.done {n : Nat} {l : Array Bool} {a : Act} {w : World} (hr : Region.ready .any ops l = []) (h : Q .normal a w) : ∀ f, AnyT P ops Q S n f l a w
  | 0 => ⟨hr, h⟩
  | f + 1 => ⟨fun _ => h, fun i hi => (by rw [hr] at hi; cases hi)⟩
theorem AnyT.start (n : Nat) {id : Nat} {a : Act} {w : World} (hm : P.follows .mixedOrders = true) (h : AnyT P ops Q S n ops.size (Array.replicate ops.size false) a w.drew) : (Code.region id ops true).wp P Q a w :=
  wp_region_any hm (AnyT.any _ _ _ _ h)
/-- The same, what has come up given as a literal. -/
theorem AnyT.takeL {n i f : Nat} {oi : Oper} {d : Option Nat} {v : Value} {l l' : Array Bool} {a : Act} {w : World} (hl : l.setIfInBounds i true = l') (hi : ops[i]? = some oi) (hd : (ops[i]?).map (fun o => o.dst) = some d) (hsel : Region.noSelect ops = true)
    (hT : (decide (i < n) && decide (n < ops.size) && Region.sinkB .any ops n && Region.chainB .any ops n && headB ops n l && Region.free .any ops l i && (Region.ready .any ops l).contains i) = true)
    (hQ : ∀ c a w, Q (.panic c) (a.put oi.dst v) w → Q (.panic c) a w) (hy : YieldsIf P ops S oi v a) (hS : S w)
    (h : AnyT P ops Q S n f l' (a.put d v) w) : AnyT P ops Q S n (f + 1) l a w := by
  rw [hi] at hd
  injection hd with hd
  subst hl hd
  exact AnyT.take hi hsel hT hQ hy hS h
theorem AnyT.onlyL {n i f : Nat} {o : Oper} {l l' : Array Bool} {a : Act} {w : World} (hl : l.setIfInBounds i true = l') (hi : ops[i]? = some o) (hr : Region.ready .any ops l = [i])
    (h : ∀ K : Act → World → Prop, Shut (∀ a' w', (i = n ∨ S w') → AnyT P ops Q S n f l' a' w' → K a' w') → if Region.wanted o (yielded ops a.tmps) = true then Oper.wp P o a w K Q else K (a.put o.dst undef) w) : AnyT P ops Q S n (f + 1) l a w := by
  subst hl; exact AnyT.only hi hr h
theorem AnyT.startL (n : Nat) {l : Array Bool} {id : Nat} {a : Act} {w : World} {f : Nat} (hf : ops.size = f) (hl : Array.replicate ops.size false = l) (hm : P.follows .mixedOrders = true) (h : AnyT P ops Q S n f l a w.drew) : (Code.region id ops true).wp P Q a w := by
  subst hl hf; exact AnyT.start n hm h
/-- Number i or number j comes up next. -/
theorem AnyT.twoL {n i j f : Nat} {oi oj : Oper} {l li lj : Array Bool} {a : Act} {w : World} (hli : l.setIfInBounds i true = li) (hlj : l.setIfInBounds j true = lj) (hi : ops[i]? = some oi) (hj : ops[j]? = some oj) (hr : Region.ready .any ops l = [i, j])
    (h1 : ∀ K : Act → World → Prop, Shut (∀ a' w', (i = n ∨ S w') → AnyT P ops Q S n f li a' w' → K a' w') → if Region.wanted oi (yielded ops a.tmps) = true then Oper.wp P oi a w K Q else K (a.put oi.dst undef) w)
    (h2 : ∀ K : Act → World → Prop, Shut (∀ a' w', (j = n ∨ S w') → AnyT P ops Q S n f lj a' w' → K a' w') → if Region.wanted oj (yielded ops a.tmps) = true then Oper.wp P oj a w K Q else K (a.put oj.dst undef) w) : AnyT P ops Q S n (f + 1) l a w := by
  subst hli hlj
  refine ⟨fun h0 => (by rw [hr] at h0; cases h0), fun k hk => ?_⟩
  rw [hr, List.mem_cons, List.mem_singleton] at hk
  rcases hk with rfl | rfl
  · exact wpOp_step hi fun K hK => h1 K fun a' w' g1 g2 => hK a' w' ⟨g1, g2⟩
  · exact wpOp_step hj fun K hK => h2 K fun a' w' g1 g2 => hK a' w' ⟨g1, g2⟩
/-- A condition that says more. -/
theorem AnyT.more {S' : World → Prop} {n : Nat} (hS : ∀ w, S' w → S w) : ∀ {f : Nat} {l : Array Bool} {a : Act} {w : World}, AnyT P ops Q S' n f l a w → AnyT P ops Q S n f l a w
  | 0, _, _, _, h => h
  | f + 1, _, _, _, h => ⟨h.1, fun i hi => wpOp_mono (fun a' w' q => ⟨q.1.imp id (hS w'), AnyT.more hS q.2⟩) (h.2 i hi)⟩
end
end Go.Proofs.Ytncgihbnfmpdbaa
