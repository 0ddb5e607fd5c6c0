/-
  Words for memory: segments, whose entries lie in blocks of their own type or are older (chapter 24).
  Plain laws, no program in sight: bodies are decoded; the stream's two sides (chapter 24).
  Contracts: sealed segments: Open of eventlog and of its reference.
  Contracts: reader.word, reader.event of the program (chapters 19, 24).
-/
import Derived.Test.YthpjbffhdaaibaaZ6
import Derived.Test.YthpjbffhdaaibaaZ7
import Derived.Test.YthpjbffhdaaibaaZ2
import Derived.BigQuiet
import Derived.Test.YthpjbffhdaaibaaZ3
import Derived.Deep.DeepCutAuto
import Derived.Outline
set_option linter.unusedVariables false
set_option linter.unusedSimpArgs false
set_option maxRecDepth 100000
namespace Go.Proofs.Ythpjbffhdaaibaa
open Go.RowKit Go.Lib
/-- What an append, a store leaves: what block may have changed, of what type it was. -/
def Chg (T : TypeId) (B : Nat) (w w' : World) (g : Option Nat) : Prop := w.grownBy w' g ∧ ∀ c, g = some c → B ≤ c ∧ ∃ cs T' z, w.heap[c]? = some (.cells cs T' z) ∧ T' ≠ T
theorem Own.blk {α : Type} {e : TypeId} {s : Nat} {f : α → List Value} {base : Nat} {w : World} {v : Value} {L : List α} (h : Own e s f base w v L) {g : Nat} (hg : v.ownBlock = some g) : base ≤ g ∧ ∃ cs, w.heap[g]? = some (.cells cs e (0, 0)) := by
  rcases h.2 with ⟨rfl, h0⟩ | ⟨g', cp, cur, rfl, q1, q2, _⟩
  · simp [Value.ownBlock] at hg
  · simp only [Value.ownBlock] at hg
    injection hg with hg
    subst hg
    exact ⟨q1, _, q2⟩
theorem Chg.own {α : Type} {T e : TypeId} {s : Nat} {f : α → List Value} {base B : Nat} {w w' : World} {v : Value} {L : List α} (h : Own e s f base w v L) (hT : e ≠ T) (hB : B ≤ base) (hg : w.grownBy w' v.ownBlock) : Chg T B w w' v.ownBlock :=
  ⟨hg, fun c hc => ⟨Nat.le_trans hB (h.blk hc).1, let ⟨cs, q⟩ := (h.blk hc).2; ⟨cs, e, (0, 0), q, hT⟩⟩⟩
theorem Chg.put {T T' : TypeId} {B c : Nat} {w : World} {cs : Array Value} {z : Nat × Nat} (h : w.heap[c]? = some (.cells cs T' z)) (hT : T' ≠ T) (hB : B ≤ c) (j : Nat) (v : Value) : Chg T B w (w.setCell ⟨c, j, none⟩ v) (some c) :=
  ⟨Lgc.grown_set _ _ _ _, fun c' hc => by injection hc with hc; subst hc; exact ⟨hB, cs, T', z, h, hT⟩⟩
/-- What a slice reads lies in a block older than B, or in one of type T. -/
def Ty (T : TypeId) (B : Nat) (w : World) (A : Option Addr) (n : Nat) : Prop := n = 0 ∨ ∀ a, A = some a → a.block < B ∨ ∃ cs z, w.heap[a.block]? = some (.cells cs T z)
theorem Ty.held {T : TypeId} {B : Nat} {w w' : World} {A : Option Addr} {n : Nat} (h : Ty T B w A n) (k : Held w w') : Ty T B w' A n :=
  h.imp id fun h a ha => (h a ha).imp id fun ⟨cs, z, q⟩ => ⟨cs, z, (k.block _ (Array.getElem?_eq_some_iff.1 q).1).trans q⟩
theorem Ty.own {α : Type} {T : TypeId} {s : Nat} {f : α → List Value} {base B : Nat} {w : World} {A : Option Addr} {n cap : Nat} {L : List α} (h : Own T s f base w (.slice A n cap) L) : Ty T B w A n := by
  rcases h.2 with ⟨he, h0⟩ | ⟨g', cp, cur, he, q1, q2, _⟩
  · injection he with _ he; exact .inl he
  · injection he with he
    refine .inr fun a ha => .inr ?_
    rw [he] at ha
    injection ha with ha
    subst ha
    exact ⟨_, _, q2⟩
theorem Ty.old {T : TypeId} {B : Nat} {w : World} {A : Option Addr} {n : Nat} (h : ∀ a, A = some a → a.block < B) : Ty T B w A n := .inr fun a ha => .inl (h a ha)
theorem Ty.chg {T : TypeId} {B : Nat} {w w' : World} {A : Option Addr} {n : Nat} {g : Option Nat} (h : Ty T B w A n) (k : Chg T B w w' g) : Ty T B w' A n := by
  refine h.imp id fun h a ha => (h a ha).imp id ?_
  rintro ⟨cs, z, q⟩
  refine ⟨cs, z, ?_⟩
  rw [k.1.block _ (Array.getElem?_eq_some_iff.1 q).1 ?_]; exact q
  intro e
  obtain ⟨_, cs', T', z', q', hT⟩ := k.2 _ (by first | exact e | exact e.symm)
  rw [q] at q'
  injection q' with q'
  injection q' with _ q' _
  exact hT q'.symm
theorem Sl.chg {α : Type} {s : Nat} {f : α → List Value} {T : TypeId} {B : Nat} {w w' : World} {A : Option Addr} {n : Nat} {L : List α} (h : Sl s f w A n L) (ht : Ty T B w A n) {g : Option Nat} (k : Chg T B w w' g) : Sl s f w' A n L := by
  refine ⟨h.1, ?_⟩
  rcases h.2 with h0 | ⟨b, off, rfl, hb, hc⟩
  · exact .inl h0
  · rcases ht with h0 | ht
    · exact .inl h0
    · refine .inr ⟨b, off, rfl, Nat.lt_of_lt_of_le hb k.1.size, fun i hi j v hv => ?_⟩
      have hne : w'.heap[b]? = w.heap[b]? := by
        refine k.1.block b hb fun e => ?_
        obtain ⟨hB, cs', T', z', q', hT⟩ := k.2 b (by first | exact e | exact e.symm)
        rcases ht _ rfl with h1 | ⟨cs, z, q⟩
        · simp only at h1; omega
        · simp only at q
          rw [q] at q'
          injection q' with q'
          injection q' with _ q' _
          exact hT q'.symm
      have h2 := hc i hi j v hv
      simp only [World.cell?, hne] at h2 ⊢
      exact h2
namespace Mem
variable {W w : World} {H : List Ck} {α : Type} {e : TypeId} {s : Nat} {f : α → List Value}
/-- An append of one element; it tells what grew. -/
theorem wp_appC (h : Mem W w H) (i : Nat) {v : Value} {L : List α} (hi : H[i]? = some (.row e s f W.heap.size v L)) {P : Program} {ops : Array Oper} {rest : List Oper} {o : Oper} {a : Act} {Q : Exit → Act → World → Prop} (hgd : o.guard = none) (sl x : Operand) (t : TypeId)
    (ho : o.op = .call { callee := .builtin .append, args := #[sl, x], argTypes := #[t, t] }) (z : Value) (bytes : Nat) (ht : P.underlying t = some (.slice e)) (hinfo : (P.info? e).map (fun i => (i.zero, i.size, i.bytes)) = some (some z, s, bytes))
    (hzs : z.cells.size = s) (hs0 : 0 < s) (hf : ∀ x, (f x).length = s) (hf1 : ∀ x, ∀ u ∈ f x, u.oneCell' = true) (d : α) (ad : Addr) (c : Nat)
    (hs : a.eval sl = v) (hx : a.eval x = .slice (some ad) 1 c) (hnews : ∀ j u, (f d)[j]? = some u → w.cell? (ad.add j) = some u)
    (n : Nat) (hn : L.length = n) (hb : (n + 1) * bytes ≤ 140737488355328) (hb1 : 1 ≤ bytes)
    (k : ∀ g cap w', Mem W w' (H.set i (.row e s f W.heap.size (.slice (some ⟨g, 0, none⟩) (n + 1) cap) (L ++ [d]))) → (∀ T B, e ≠ T → B ≤ W.heap.size → Chg T B w w' v.ownBlock) → wpList P ops Q rest (a.put o.dst (.slice (some ⟨g, 0, none⟩) (n + 1) cap)) w') :
    wpList P ops Q (o :: rest) a w := by
  subst hn
  refine Own.app w hgd sl x t ho z bytes ht hinfo hzs hs0 hf hf1 W.heap.size v L d ad c hs (h.row i hi) hx hnews hb hb1 h.le ?_
  intro g cap w' h1 h2 h3 h4
  refine k g cap w' (h.app i hi h2 h1 (fun b hb' => ?_)) fun T B hT hB => Chg.own (h.row i hi) hT hB h2
  have hb' : g = b := by simpa [Value.ownBlock] using hb'
  subst hb'
  exact h3.imp id (fun e => by omega)
/-- The same at a step of a region that draws its order. -/
theorem step_appC (h : Mem W w H) (i : Nat) {v : Value} {L : List α} (hi : H[i]? = some (.row e s f W.heap.size v L)) {P : Program} {ops : Array Oper} {o : Oper} {a : Act} {K : Act → World → Prop} {Q : Exit → Act → World → Prop} {E : Prop} (hgd : o.guard = none) (sl x : Operand) (t : TypeId)
    (ho : o.op = .call { callee := .builtin .append, args := #[sl, x], argTypes := #[t, t] }) (z : Value) (bytes : Nat) (ht : P.underlying t = some (.slice e)) (hinfo : (P.info? e).map (fun i => (i.zero, i.size, i.bytes)) = some (some z, s, bytes))
    (hzs : z.cells.size = s) (hs0 : 0 < s) (hf : ∀ x, (f x).length = s) (hf1 : ∀ x, ∀ u ∈ f x, u.oneCell' = true) (d : α) (ad : Addr) (c : Nat)
    (hs : a.eval sl = v) (hx : a.eval x = .slice (some ad) 1 c) (hnews : ∀ j u, (f d)[j]? = some u → w.cell? (ad.add j) = some u)
    (n : Nat) (hn : L.length = n) (hb : (n + 1) * bytes ≤ 140737488355328) (hb1 : 1 ≤ bytes)
    (k : ∀ g cap w', Mem W w' (H.set i (.row e s f W.heap.size (.slice (some ⟨g, 0, none⟩) (n + 1) cap) (L ++ [d]))) → (∀ T B, e ≠ T → B ≤ W.heap.size → Chg T B w w' v.ownBlock) → K (a.put o.dst (.slice (some ⟨g, 0, none⟩) (n + 1) cap)) w') :
    if Region.wanted o (yielded ops a.tmps) = true then Oper.wp P o a w K Q else E := by
  subst hn
  refine Own.step_app w hgd sl x t ho z bytes ht hinfo hzs hs0 hf hf1 W.heap.size v L d ad c hs (h.row i hi) hx hnews hb hb1 h.le ?_
  intro g cap w' h1 _ h2 h3 h4
  refine k g cap w' (h.app i hi h2 h1 (fun b hb' => ?_)) fun T B hT hB => Chg.own (h.row i hi) hT hB h2
  have hb' : g = b := by simpa [Value.ownBlock] using hb'
  subst hb'
  exact h3.imp id (fun e => by omega)
/-- A store into a box. -/
theorem chgPut (h : Mem W w H) (i : Nat) {b : Nat} {cs : Array Value} {t : TypeId} (hi : H[i]? = some (.box b cs t)) (j : Nat) (v : Value) {T : TypeId} {B : Nat} (hT : t ≠ T) (hB : B ≤ W.heap.size) : Chg T B w (w.setCell ⟨b, j, none⟩ v) (some b) :=
  Chg.put (h.blk i hi) hT (Nat.le_trans hB (h.geb i hi)) j v
end Mem
namespace St
open Enc
/-- A segment as it stands in memory: its entries' slice. -/
structure SR where
  f : Nat
  kn : Nat
  A : Option Addr
  n : Nat
  cap : Nat
  es : List Ent
def SR.g (x : SR) : Seg := ⟨x.f, x.kn, x.es⟩
def segC (x : SR) : List Value := [.int .u64 x.f, .int .u64 x.kn, .slice x.A x.n x.cap]
abbrev SR.v (x : SR) : Value := .agg #[.int .u64 x.f, .int .u64 x.kn, .slice x.A x.n x.cap]
theorem segC_len (x : SR) : (segC x).length = 3 := rfl
theorem segC_one (x : SR) : ∀ u ∈ segC x, u.oneCell' = true := by intro u hu; simp [segC] at hu; rcases hu with rfl | rfl | rfl <;> rfl
structure ErR where
  s : Nat
  x : SR
def ErR.e (x : ErR) : Er := ⟨x.s, x.x.g⟩
def erC (x : ErR) : List Value := [.int .u64 x.s, .int .u64 x.x.f, .int .u64 x.x.kn, .slice x.x.A x.x.n x.x.cap]
theorem erC_len (x : ErR) : (erC x).length = 4 := rfl
theorem erC_one (x : ErR) : ∀ u ∈ erC x, u.oneCell' = true := by intro u hu; simp [erC] at hu; rcases hu with rfl | rfl | rfl | rfl <;> rfl
/-- A segment's entries can be read. -/
structure Sg (B : Nat) (w : World) (x : SR) : Prop where
  sl : Sl 4 entC w x.A x.n x.es
  ty : Ty 106 B w x.A x.n
  n : x.n ≤ 100000
  f : x.f < 18446744073709551616
  kn : x.kn < 18446744073709551616
  ok : ∀ e ∈ x.es, EntOK e
theorem Sg.held {B : Nat} {w w' : World} {x : SR} (h : Sg B w x) (k : Held w w') : Sg B w' x := ⟨h.sl.held k, h.ty.held k, h.n, h.f, h.kn, h.ok⟩
theorem Sg.chg {B : Nat} {w w' : World} {x : SR} (h : Sg B w x) {g : Option Nat} (k : Chg 106 B w w' g) : Sg B w' x := ⟨h.sl.chg h.ty k, h.ty.chg k, h.n, h.f, h.kn, h.ok⟩
theorem Sg.none {B : Nat} {w : World} {x : SR} (h : Sg B w x) : x.A = .none → x.n = 0 := fun e => by
  rcases h.sl.2 with h0 | ⟨b, off, e', _⟩
  · exact h0
  · rw [e] at e'; cases e'
theorem Sg.zero (B : Nat) (w : World) : Sg B w ⟨0, 0, .none, 0, 0, []⟩ := ⟨Sl.nil _ _, .inl rfl, Nat.zero_le _, by decide, by decide, fun e h => by simp at h⟩
def Sgs (B : Nat) (w : World) (R : List SR) : Prop := ∀ x ∈ R, Sg B w x
theorem Sgs.held {B : Nat} {w w' : World} {R : List SR} (h : Sgs B w R) (k : Held w w') : Sgs B w' R := fun x hx => (h x hx).held k
theorem Sgs.chg {B : Nat} {w w' : World} {R : List SR} (h : Sgs B w R) {g : Option Nat} (k : Chg 106 B w w' g) : Sgs B w' R := fun x hx => (h x hx).chg k
theorem Sgs.nil (B : Nat) (w : World) : Sgs B w [] := fun x h => by simp at h
theorem Sgs.snoc {B : Nat} {w : World} {R : List SR} (h : Sgs B w R) {x : SR} (hx : Sg B w x) : Sgs B w (R ++ [x]) := fun y hy => by
  rcases List.mem_append.1 hy with hy | hy
  · exact h y hy
  · rw [List.mem_singleton] at hy; subst hy; exact hx
theorem Sgs.cat {B : Nat} {w : World} {R R' : List SR} (h : Sgs B w R) (h' : Sgs B w R') : Sgs B w (R ++ R') := fun y hy => (List.mem_append.1 hy).elim (h y) (h' y)
theorem Sgs.drop {B : Nat} {w : World} {R : List SR} (h : Sgs B w R) (k : Nat) : Sgs B w (R.drop k) := fun y hy => h y (List.mem_of_mem_drop hy)
theorem Sgs.take {B : Nat} {w : World} {R : List SR} (h : Sgs B w R) (k : Nat) : Sgs B w (R.take k) := fun y hy => h y (List.mem_of_mem_take hy)
theorem Sgs.at_ {B : Nat} {w : World} {R : List SR} (h : Sgs B w R) {k : Nat} {x : SR} (hx : R[k]? = some x) : Sg B w x := h x (List.mem_of_getElem? hx)
def gs (R : List SR) : List Seg := R.map SR.g
def Ers (B : Nat) (w : World) (R : List ErR) : Prop := ∀ x ∈ R, Sg B w x.x ∧ x.s < 18446744073709551616
theorem Ers.held {B : Nat} {w w' : World} {R : List ErR} (h : Ers B w R) (k : Held w w') : Ers B w' R := fun x hx => ⟨(h x hx).1.held k, (h x hx).2⟩
theorem Ers.chg {B : Nat} {w w' : World} {R : List ErR} (h : Ers B w R) {g : Option Nat} (k : Chg 106 B w w' g) : Ers B w' R := fun x hx => ⟨(h x hx).1.chg k, (h x hx).2⟩
theorem Ers.nil (B : Nat) (w : World) : Ers B w [] := fun x h => by simp at h
theorem Ers.snoc {B : Nat} {w : World} {R : List ErR} (h : Ers B w R) {x : ErR} (hx : Sg B w x.x ∧ x.s < 18446744073709551616) : Ers B w (R ++ [x]) := fun y hy => by
  rcases List.mem_append.1 hy with hy | hy
  · exact h y hy
  · rw [List.mem_singleton] at hy; subst hy; exact hx
theorem Ers.at_ {B : Nat} {w : World} {R : List ErR} (h : Ers B w R) {k : Nat} {x : ErR} (hx : R[k]? = some x) : Sg B w x.x ∧ x.s < 18446744073709551616 := h x (List.mem_of_getElem? hx)
def ers (R : List ErR) : List Er := R.map ErR.e
/-- Elements in memory. -/
theorem segAt {w a : World} {A : Option Addr} {n : Nat} {L : List SR} (h : Sl 3 segC w A n L) (ha : Held w a) {k : Nat} (hk : k < n) :
    ∃ b off f kn A' n' c' es, A = some ⟨b, off, none⟩ ∧ b < w.heap.size ∧ L[k]? = some ⟨f, kn, A', n', c', es⟩ ∧ a.cell? ⟨b, off + k * 3, none⟩ = some (.int .u64 f) ∧ a.cell? ⟨b, off + k * 3 + 1, none⟩ = some (.int .u64 kn) ∧ a.cell? ⟨b, off + k * 3 + 2, none⟩ = some (.slice A' n' c') := by
  obtain ⟨b, off, x, e, hb, hx, hc⟩ := Sl.at_ h ha hk
  exact ⟨b, off, x.f, x.kn, x.A, x.n, x.cap, x.es, e, hb, hx, hc 0 _ rfl, hc 1 _ rfl, hc 2 _ rfl⟩
theorem erAt {w a : World} {A : Option Addr} {n : Nat} {L : List ErR} (h : Sl 4 erC w A n L) (ha : Held w a) {k : Nat} (hk : k < n) :
    ∃ b off s f kn A' n' c' es, A = some ⟨b, off, none⟩ ∧ b < w.heap.size ∧ L[k]? = some ⟨s, f, kn, A', n', c', es⟩ ∧ a.cell? ⟨b, off + k * 4, none⟩ = some (.int .u64 s) ∧ a.cell? ⟨b, off + k * 4 + 1, none⟩ = some (.int .u64 f) ∧ a.cell? ⟨b, off + k * 4 + 2, none⟩ = some (.int .u64 kn) ∧ a.cell? ⟨b, off + k * 4 + 3, none⟩ = some (.slice A' n' c') := by
  obtain ⟨b, off, x, e, hb, hx, hc⟩ := Sl.at_ h ha hk
  exact ⟨b, off, x.s, x.x.f, x.x.kn, x.x.A, x.x.n, x.x.cap, x.x.es, e, hb, hx, hc 0 _ rfl, hc 1 _ rfl, hc 2 _ rfl, hc 3 _ rfl⟩
theorem entAt {w a : World} {A : Option Addr} {n : Nat} {L : List Ent} (h : Sl 4 entC w A n L) (ha : Held w a) {k : Nat} (hk : k < n) :
    ∃ b off t kk nn d, A = some ⟨b, off, none⟩ ∧ b < w.heap.size ∧ L[k]? = some ⟨t, kk, nn, d⟩ ∧ a.cell? ⟨b, off + k * 4, none⟩ = some (.int .u64 (t : Int)) ∧ a.cell? ⟨b, off + k * 4 + 1, none⟩ = some (.int .i64 kk) ∧ a.cell? ⟨b, off + k * 4 + 2, none⟩ = some (.int .u32 nn) ∧ a.cell? ⟨b, off + k * 4 + 3, none⟩ = some (.string d) := by
  obtain ⟨b, off, x, e, hb, hx, hc⟩ := Sl.at_ h ha hk
  exact ⟨b, off, x.t, x.k, x.n, x.d, e, hb, hx, hc 0 _ rfl, hc 1 _ rfl, hc 2 _ rfl, hc 3 _ rfl⟩
theorem info_ent : (Try.prog.info? 106).map (fun i => (i.zero, i.size, i.bytes)) = some (some (.agg #[.int .u64 0, .int .i64 0, .int .u32 0, .string ⟨#[]⟩]), 4, 40) := by kernel_rfl
theorem info_seg : (Try.prog.info? 32).map (fun i => (i.zero, i.size, i.bytes)) = some (some (.agg #[.int .u64 0, .int .u64 0, .slice none 0 0]), 3, 40) := by kernel_rfl
theorem info_er : (Try.prog.info? 87).map (fun i => (i.zero, i.size, i.bytes)) = some (some (.agg #[.int .u64 0, .int .u64 0, .int .u64 0, .slice none 0 0]), 4, 48) := by kernel_rfl
theorem ne_se : 32 ≠ 106 := by decide
end St
end Go.Proofs.Ythpjbffhdaaibaa

set_option linter.unusedVariables false
namespace Go.Proofs.Ythpjbffhdaaibaa.St
open Enc Uv Lg
/-- The fields lie in their types. -/
structure SegIn (g : Seg) : Prop where
  f : g.f < 18446744073709551616
  kn : g.kn < 18446744073709551616
  ok : ∀ e ∈ g.es, EntOK e
theorem logOf_ok {g : Seg} {s : List UInt8} (h : logOf g = (s, 0)) : g.f ≤ g.kn ∧ late g.es g.kn = false ∧ encode g.es g.f = (s, 0) := by
  unfold logOf at h
  split at h
  · injection h with _ h; cases h
  · rename_i h1
    simp only [Bool.or_eq_true, decide_eq_true_eq, not_or, Bool.not_eq_true] at h1
    exact ⟨by omega, h1.2, h⟩
theorem logOf_mk {g : Seg} {s : List UInt8} {c : Int} (h1 : g.f ≤ g.kn) (h2 : late g.es g.kn = false) (h3 : encode g.es g.f = (s, c)) : logOf g = (s, c) := by
  unfold logOf
  rw [if_neg (by simp [h2]; omega)]; exact h3
theorem encode_no {L : List Ent} {f : Nat} (h : (encode L f).2 ≠ 0) : (encode L f).1 = [] := by
  unfold encode at h ⊢
  split
  · rfl
  · split
    · rfl
    · split
      · rfl
      · split
        · rfl
        · rename_i h1 h2 h3 h4
          rw [if_neg h1, if_neg h2, if_neg h3, if_neg h4] at h
          exact absurd rfl h
theorem logOf_no {g : Seg} (h : (logOf g).2 ≠ 0) : (logOf g).1 = [] := by
  unfold logOf at h ⊢
  split
  · rfl
  · rename_i h1
    rw [if_neg h1] at h
    exact encode_no h
theorem logOf_len {g : Seg} : (logOf g).1.length ≤ 65536 := by
  by_cases h : (logOf g).2 = 0
  · obtain ⟨s, hs⟩ : ∃ s, logOf g = (s, 0) := ⟨(logOf g).1, by rw [← h]⟩
    rw [hs]
    exact (encode_ok (logOf_ok hs).2.2).le
  · rw [logOf_no h]; exact Nat.zero_le _
theorem body_len (g : Seg) (h : SegIn g) : (body g).1.length ≤ 70000 := by
  have h1 := logOf_len (g := g)
  have h2 := Cp.compress_len (logOf g).1
  have h3 := put_len g.f h.f
  have h4 := put_len g.kn h.kn
  have h5 : ((logOf g).1.length + 127) / 128 ≤ 513 := by omega
  unfold body bodyOf
  split
  · simp only [List.length_append]; omega
  · simp
/-- A segment is decoded from its body. -/
theorem unbody_body {g : Seg} {s b : List UInt8} (hg : SegIn g) (h : logOf g = (s, 0)) : body g = (put g.f ++ put g.kn ++ Cp.compress s, 0) ∧ unbody (put g.f ++ put g.kn ++ Cp.compress s) = (g, 0) := by
  obtain ⟨h1, h2, h3⟩ := logOf_ok h
  refine ⟨by unfold body bodyOf; rw [h]; rfl, ?_⟩
  have u1 := uv_some (rd_put g.f hg.f (put g.kn ++ Cp.compress s))
  have u2 := uv_some (rd_put g.kn hg.kn (Cp.compress s))
  rw [List.append_assoc]
  unfold unbody
  rw [u1.2.2, if_neg (by simp), u1.1, u1.2.1, List.drop_left]
  unfold unbody2
  rw [u2.2.2, u2.1, if_neg (by simp; omega), u2.2.1, List.drop_left, Cp.back, if_pos (encode_ok h3).le]
  unfold unpack
  rw [if_neg (by simp), decL_of ⟨hg.ok, h3⟩]
  unfold unlog
  rw [if_neg (by simp), if_neg (by rw [h2]; simp)]
theorem unlog_no {f kn : Nat} {p : List Ent × Int} (h : (unlog f kn p).2 ≠ 0) : (unlog f kn p).1 = noSeg := by
  unfold unlog at h ⊢
  split
  · rfl
  · split
    · rfl
    · rename_i h1 h2
      rw [if_neg h1, if_neg h2] at h
      exact absurd rfl h
theorem unpack_no {f kn : Nat} {d : Nat × List UInt8} (h : (unpack f kn d).2 ≠ 0) : (unpack f kn d).1 = noSeg := by
  unfold unpack at h ⊢
  split
  · rfl
  · rename_i h1
    rw [if_neg h1] at h
    exact unlog_no h
theorem unbody_no {s : List UInt8} (h : (unbody s).2 ≠ 0) : (unbody s).1 = noSeg := by
  unfold unbody unbody2 at h ⊢
  split
  · rfl
  · rename_i h1
    rw [if_neg h1] at h
    split
    · rfl
    · rename_i h2
      rw [if_neg h2] at h
      exact unpack_no h
/-- Whatever is decoded can be encoded. -/
theorem unbody_ok {s : List UInt8} {g : Seg} (h : unbody s = (g, 0)) : SegIn g ∧ ∃ t, logOf g = (t, 0) := by
  unfold unbody at h
  split at h
  · injection h with _ h; cases h
  · unfold unbody2 at h
    split at h
    · injection h with _ h; cases h
    · rename_i h2
      unfold unpack at h
      split at h
      · rename_i h3
        injection h with _ h
        have : (Cp.dec 65536 ((s.drop (uvN s)).drop (uvN (s.drop (uvN s)))) []).1 = 0 := by exact_mod_cast h
        exact absurd this h3
      · unfold unlog at h
        split at h
        · rename_i h4
          injection h with _ h
          exact absurd h h4
        · rename_i h4
          split at h
          · injection h with _ h; cases h
          · rename_i h5
            injection h with h _
            subst h
            have h4' : (decL (Cp.dec 65536 ((s.drop (uvN s)).drop (uvN (s.drop (uvN s)))) []).2 (uvX s)).2 = 0 := by
              exact Decidable.byContradiction h4
            have hd := decL_ok h4'
            simp only [Bool.or_eq_true, Bool.not_eq_true', decide_eq_true_eq, not_or] at h2
            exact ⟨⟨uvX_lt _, uvX_lt _, hd.1⟩, _, logOf_mk (by simp only; omega) (by simpa using h5) hd.2⟩
/-! ### the two sides -/
theorem chain_cons {a : Nat} {g : Seg} {l : List Seg} {t : Nat} (h : chain a (g :: l) = some t) : g.f = a ∧ segOk g = true ∧ chain g.kn l = some t := by
  unfold chain at h
  split at h
  · rename_i h1
    simp only [Bool.and_eq_true, decide_eq_true_eq] at h1
    exact ⟨h1.1, h1.2, h⟩
  · cases h
theorem chain_mk {a : Nat} {g : Seg} {l : List Seg} (h1 : g.f = a) (h2 : segOk g = true) : chain a (g :: l) = chain g.kn l := by
  rw [chain, if_pos (by simp [h1, h2])]
/-- Where so many segments end. -/
def pos (at_ : Nat) (G : List Seg) (i : Nat) : Nat := match (G.take i).getLast? with | some g => g.kn | none => at_
theorem pos_zero (a : Nat) (G : List Seg) : pos a G 0 = a := rfl
theorem pos_succ (a : Nat) (G : List Seg) {i : Nat} (h : i < G.length) : pos a G (i + 1) = G[i].kn := by
  unfold pos
  rw [List.take_succ_eq_append_getElem h, List.getLast?_concat]
/-- All segments follow each other from a position on. -/
structure Ch (a : Nat) (G : List Seg) : Prop where
  f : ∀ i (h : i < G.length), G[i].f = pos a G i
  ok : ∀ i (h : i < G.length), segOk G[i] = true
  inn : ∀ i (h : i < G.length), SegIn G[i]
theorem segOk_le {g : Seg} (h : segOk g = true) : g.f ≤ g.kn := by
  unfold segOk at h
  have h : (logOf g).2 = 0 := of_decide_eq_true h
  exact (logOf_ok (g := g) (s := (logOf g).1) (by rw [← h])).1
theorem Ch.mono {a : Nat} {G : List Seg} (h : Ch a G) {i j : Nat} (hij : i ≤ j) (hj : j ≤ G.length) : pos a G i ≤ pos a G j := by
  induction j with
  | zero => obtain rfl : i = 0 := by omega
            exact Nat.le_refl _
  | succ j ih =>
    by_cases e : i = j + 1
    · subst e; exact Nat.le_refl _
    · have h1 := ih (by omega) (by omega)
      have h2 := h.f j (by omega)
      have h3 := segOk_le (h.ok j (by omega))
      rw [pos_succ a G (by omega)]
      omega
theorem Ch.lt {a : Nat} {G : List Seg} (h : Ch a G) (ha : a < 18446744073709551616) {i : Nat} (hi : i ≤ G.length) : pos a G i < 18446744073709551616 := by
  cases i with
  | zero => exact ha
  | succ i => rw [pos_succ a G (by omega)]; exact (h.inn i (by omega)).kn
theorem Ch.chain {a : Nat} {G : List Seg} (h : Ch a G) : ∀ (n i : Nat), i + n ≤ G.length → St.chain (pos a G i) ((G.drop i).take n) = some (pos a G (i + n))
  | 0, i, hi => by simp [St.chain]
  | n + 1, i, hi => by
    rw [List.drop_eq_getElem_cons (by omega), List.take_succ_cons, chain_mk (h.f i (by omega)) (h.ok i (by omega)), ← pos_succ a G (by omega), Ch.chain h n (i + 1) (by omega)]
    congr 2; omega
/-- The sender: the segments up to p are pushed, those up to a are acknowledged. -/
def sndAt (at_ : Nat) (G : List Seg) (a p : Nat) : Snd := ⟨a + 1, pos at_ G p, pos at_ G a, (G.drop a).take (p - a)⟩
theorem sending_at {at_ : Nat} {G : List Seg} (h : Ch at_ G) {a p : Nat} (hap : a ≤ p) (hp : p ≤ G.length) (h8 : p - a ≤ 8) (hb : a ≤ 1000000) : sending (sndAt at_ G a p) = true := by
  have hc := h.chain (p - a) a (by omega)
  rw [show a + (p - a) = p by omega] at hc
  unfold sending sndAt
  have h1 : ((G.drop a).take (p - a)).length ≤ 8 := by rw [List.length_take]; omega
  rw [decide_eq_true (show 1 ≤ a + 1 by omega), decide_eq_true (show a + 1 ≤ 4611686018427387904 by omega), decide_eq_true h1]
  simp only [Bool.true_and]
  unfold sendQ
  split
  · simp only; exact decide_eq_true (h.mono hap hp)
  · rename_i g l he
    simp only at he ⊢
    obtain ⟨hlt, hpa⟩ : a < G.length ∧ 0 < p - a := by
      have := congrArg List.length he
      rw [List.length_take, List.length_drop, List.length_cons] at this; omega
    have hg : g = G[a]'hlt := by
      rw [List.drop_eq_getElem_cons hlt, show p - a = (p - a - 1) + 1 by omega, List.take_succ_cons] at he
      injection he with he _
      exact he.symm
    have hf := h.f a hlt
    rw [← hg] at hf
    rw [hf, decide_eq_true (Nat.le_refl _), hc]
    simp
theorem drop_take_drop {α : Type} (G : List α) (a p k : Nat) (h : a ≤ k) : ((G.drop a).take (p - a)).drop (k - a) = (G.drop k).take (p - k) := by
  rw [List.drop_take, List.drop_drop]
  congr 1
  · omega
  · congr 1; omega
theorem push_at {at_ : Nat} {G : List Seg} (h : Ch at_ G) {a p : Nat} (hap : a ≤ p) (hp : p < G.length) (hb : a ≤ 1000000) (h8 : p - a ≤ 8) :
    push (sndAt at_ G a p) G[p] = if p - a < 8 then (sndAt at_ G a (p + 1), 0) else (sndAt at_ G a p, 2401) := by
  have h1 := sending_at h hap (Nat.le_of_lt hp) h8 hb
  have hl : ((G.drop a).take (p - a)).length = p - a := by rw [List.length_take, List.length_drop]; omega
  have h2 : (logOf G[p]).2 = 0 := of_decide_eq_true (h.ok p hp)
  unfold push
  rw [if_neg (by rw [h1]; simp [sndAt, h.f p hp]), if_neg (by simp [h2])]
  by_cases hlt : p - a < 8
  · rw [if_pos hlt, if_neg (by simp only [sndAt, hl]; omega)]
    unfold sndAt
    rw [pos_succ _ _ hp]
    congr 2
    have : p < G.length := hp
    rw [show p + 1 - a = (p - a) + 1 by omega, List.take_succ_eq_append_getElem (by rw [List.length_drop]; omega), List.getElem_drop]
    congr 3; omega
  · rw [if_neg hlt, if_pos (by simp only [sndAt, hl]; omega)]
theorem ackP_open {n kn : Nat} (hn : n < 18446744073709551616) (hk : kn < 18446744073709551616) : opened (ackP n kn) 65 = (n, put kn, true) := by
  have hl := put_len kn hk
  unfold opened ackP
  rw [opens_packed n _ hn (by rw [List.length_cons]; omega)]
  unfold opened1
  rw [if_neg (by simp)]
  simp
theorem dataP_open {n : Nat} {g : Seg} (hn : n < 18446744073709551616) (hg : SegIn g) : opened (dataP n g) 68 = (n, (body g).1, true) := by
  have hl := body_len g hg
  unfold opened dataP
  rw [opens_packed n _ hn (by rw [List.length_cons]; omega)]
  unfold opened1
  rw [if_neg (by simp)]
  simp
theorem opened_bad {p : List UInt8} (m : UInt8) (h : (opens p).2.2 ≠ 0) : opened p m = (0, [], false) := by
  unfold opened opened1; rw [if_pos h]
theorem opened_other {n : Nat} {b : List UInt8} {c m : UInt8} (hn : n < 18446744073709551616) (hb : b.length < 18446744073709551610) (hc : c ≠ m) : opened (packed n (c :: b)) m = (0, [], false) := by
  unfold opened
  rw [opens_packed n _ hn (by rw [List.length_cons]; omega)]
  unfold opened1
  rw [if_neg (by simp)]
  simp [hc]
/-- An acknowledgement of j segments. -/
theorem acked_at {at_ : Nat} {G : List Seg} (h : Ch at_ G) (hat : at_ < 18446744073709551616) {a p j : Nat} (hap : a ≤ p) (hp : p ≤ G.length) (h8 : p - a ≤ 8) (hb : p ≤ 1000000) (hj : j ≤ p) :
    acked (sndAt at_ G a p) (ackP (j + 1) (pos at_ G j)) = if a < j then (sndAt at_ G j p, true) else (sndAt at_ G a p, false) := by
  have h1 := sending_at h hap hp h8 (by omega)
  have hpl := h.lt hat (i := j) (by omega)
  have hl : ((G.drop a).take (p - a)).length = p - a := by rw [List.length_take, List.length_drop]; omega
  have u := uv_some (rd_put (pos at_ G j) hpl [])
  rw [List.append_nil] at u
  unfold acked
  rw [ackP_open (by omega) hpl]
  unfold acked1
  simp only
  rw [if_neg (by rw [h1]; simp), if_neg (by rw [u.2.2, u.2.1]; simp)]
  by_cases hlt : a < j
  · rw [if_pos hlt, if_neg (by simp only [sndAt, hl]; simp; omega)]
    have e : ackAt (sndAt at_ G a p) (j + 1) = some (pos at_ G j) := by
      unfold ackAt sndAt
      simp only
      rw [List.getElem?_take, if_pos (by omega), List.getElem?_drop, show a + (j + 1 - (a + 1) - 1) = j - 1 by omega, List.getElem?_eq_getElem (by omega)]
      have := pos_succ at_ G (i := j - 1) (by omega)
      rw [show j - 1 + 1 = j by omega] at this
      rw [this]; rfl
    rw [u.1, e, if_neg (by simp)]
    unfold sndAt
    simp only
    rw [show j + 1 - (a + 1) = j - a by omega, drop_take_drop G a p j (by omega)]
  · rw [if_neg hlt, if_pos (by simp only [sndAt]; simp; omega)]
/-- What has arrived early. -/
structure EI (at_ : Nat) (G : List Seg) (k m : Nat) (E : List Er) : Prop where
  mem : ∀ x ∈ E, ∃ i, ∃ h : i < G.length, i < m ∧ k < i ∧ x = ⟨i + 1, G[i]⟩
  asc : E.Pairwise fun x y => x.s < y.s
def rcvAt (at_ : Nat) (G : List Seg) (k : Nat) (E : List Er) : Rcv := ⟨k + 1, pos at_ G k, E⟩
theorem asc_len {α : Type} (s : α → Nat) : ∀ (l : List α) (lo hi : Nat), l.Pairwise (fun x y => s x < s y) → (∀ x ∈ l, lo < s x ∧ s x ≤ hi) → l.length ≤ hi - lo
  | [], _, _, _, _ => Nat.zero_le _
  | x :: l, lo, hi, hp, hb => by
    obtain ⟨h1, h2⟩ := List.pairwise_cons.1 hp
    have hx := hb x (by simp)
    have := asc_len s l (s x) hi h2 fun y hy => ⟨h1 y hy, (hb y (by simp [hy])).2⟩
    rw [List.length_cons]; omega
theorem asc_of {n : Nat} : ∀ (l : List Er) (a : Nat), l.Pairwise (fun x y => x.s < y.s) → (∀ x ∈ l, a < x.s ∧ x.s < n + 8 ∧ segOk x.g = true) → asc n a l = true
  | [], _, _, _ => rfl
  | x :: l, a, hp, hb => by
    obtain ⟨h1, h2⟩ := List.pairwise_cons.1 hp
    obtain ⟨b1, b2, b3⟩ := hb x (by simp)
    unfold asc
    rw [decide_eq_true b1, decide_eq_true b2, b3, asc_of l x.s h2 fun y hy => ⟨h1 y hy, (hb y (by simp [hy])).2⟩]; rfl
theorem EI.receiving {at_ : Nat} {G : List Seg} (h : Ch at_ G) {k m : Nat} {E : List Er} (e : EI at_ G k m E) (hm : m ≤ 8) (hk : k ≤ 1000000) : receiving (rcvAt at_ G k E) = true := by
  have hl := asc_len Er.s E (k + 1) m e.asc fun x hx => by obtain ⟨i, hi, h1, h2, rfl⟩ := e.mem x hx; exact ⟨by simp only; omega, by simp only; omega⟩
  have ha := asc_of (n := k + 1) E (k + 1) e.asc fun x hx => by obtain ⟨i, hi, h1, h2, rfl⟩ := e.mem x hx; exact ⟨by simp only; omega, by simp only; omega, h.ok i hi⟩
  unfold St.receiving rcvAt
  simp only
  rw [decide_eq_true (show 1 ≤ k + 1 by omega), decide_eq_true (show k + 1 ≤ 4611686018427387904 by omega), decide_eq_true (show E.length ≤ 7 by omega), ha]; rfl
/-- Delivery in order. -/
theorem drain_at {at_ : Nat} {G : List Seg} (h : Ch at_ G) (m : Nat) : ∀ (E : List Er) (k : Nat), k ≤ G.length → (∀ x ∈ E, ∃ i, ∃ h : i < G.length, i < m ∧ k ≤ i ∧ x = ⟨i + 1, G[i]⟩) → E.Pairwise (fun x y => x.s < y.s) →
    ∃ k' E', k ≤ k' ∧ k' ≤ G.length ∧ EI at_ G k' m E' ∧ drain (k + 1) (pos at_ G k) E = (rcvAt at_ G k' E', (G.drop k).take (k' - k)) ∧ (∀ x ∈ E, x.s < k' + 1 ∨ x ∈ E') ∧ (k ≤ m → k' ≤ m)
  | [], k, hk, _, _ => ⟨k, [], Nat.le_refl _, hk, ⟨fun x hx => by simp at hx, List.Pairwise.nil⟩, by simp [drain, rcvAt], fun x hx => by simp at hx, id⟩
  | x :: E, k, hk, hm, hp => by
    obtain ⟨h1, h2⟩ := List.pairwise_cons.1 hp
    obtain ⟨i, hi, him, hki, rfl⟩ := hm x (by simp)
    by_cases he : i = k
    · subst he
      obtain ⟨k', E', q1, q2, q3, q4, q5, q6⟩ := drain_at h m E (i + 1) (by omega) (fun y hy => by
        obtain ⟨j, hj, hjm, hkj, rfl⟩ := hm y (by simp [hy])
        have := h1 _ hy
        simp only at this
        exact ⟨j, hj, hjm, by omega, rfl⟩) h2
      refine ⟨k', E', by omega, q2, q3, ?_, fun y hy => ?_, fun _ => q6 (by omega)⟩
      · rw [drain, if_pos rfl, if_pos (h.f i hi), ← pos_succ at_ G hi, q4]
        simp only
        congr 1
        rw [List.drop_eq_getElem_cons hi, show k' - i = (k' - (i + 1)) + 1 by omega, List.take_succ_cons]
      · rcases List.mem_cons.1 hy with rfl | hy
        · exact .inl (by simp only; omega)
        · exact q5 y hy
    · refine ⟨k, ⟨i + 1, G[i]⟩ :: E, Nat.le_refl _, hk, ⟨fun y hy => ?_, hp⟩, ?_, fun y hy => .inr hy, id⟩
      · obtain ⟨j, hj, hjm, hkj, rfl⟩ := hm y hy
        refine ⟨j, hj, hjm, ?_, rfl⟩
        rcases List.mem_cons.1 hy with h3 | h3
        · injection h3 with h3 _; omega
        · have := h1 _ h3; simp only at this; omega
      · rw [drain, if_neg (by simp only; omega)]
        simp [rcvAt]
theorem before_le (n : Nat) (l : List Er) : before n l ≤ l.length := by unfold before; exact List.IsPrefix.length_le (List.takeWhile_prefix _)
theorem mem_ins {x y : Er} {l : List Er} : y ∈ ins x l ↔ y = x ∨ y ∈ l := by
  unfold ins
  have e : l.take (before x.s l) ++ l.drop (before x.s l) = l := List.take_append_drop _ _
  constructor
  · intro h
    rcases List.mem_append.1 h with h | h
    · exact .inr (List.mem_of_mem_take h)
    · rcases List.mem_cons.1 h with h | h
      · exact .inl h
      · exact .inr (List.mem_of_mem_drop h)
  · rintro (rfl | h)
    · simp
    · rw [← e] at h
      rcases List.mem_append.1 h with h | h
      · exact List.mem_append.2 (.inl h)
      · exact List.mem_append.2 (.inr (List.mem_cons_of_mem _ h))
theorem before_cons (n : Nat) (y : Er) (l : List Er) : before n (y :: l) = if y.s < n then before n l + 1 else 0 := by
  unfold before
  rw [List.takeWhile_cons]
  by_cases h : y.s < n
  · simp [h]
  · simp [h]
theorem ins_cons (x y : Er) (l : List Er) : ins x (y :: l) = if y.s < x.s then y :: ins x l else x :: y :: l := by
  unfold ins
  rw [before_cons]
  by_cases h : y.s < x.s
  · simp [h]
  · simp [h]
theorem ins_asc (x : Er) : ∀ l : List Er, l.Pairwise (fun x y => x.s < y.s) → (∀ y ∈ l, y.s ≠ x.s) → (ins x l).Pairwise fun x y => x.s < y.s
  | [], _, _ => by simp [ins, before]
  | y :: l, hp, hn => by
    obtain ⟨h1, h2⟩ := List.pairwise_cons.1 hp
    rw [ins_cons]
    have hy := hn y (by simp)
    split
    · rename_i hlt
      refine List.pairwise_cons.2 ⟨fun z hz => ?_, ins_asc x l h2 fun z hz => hn z (by simp [hz])⟩
      rcases mem_ins.1 hz with rfl | hz
      · exact hlt
      · exact h1 z hz
    · rename_i hlt
      refine List.pairwise_cons.2 ⟨fun z hz => ?_, hp⟩
      rcases List.mem_cons.1 hz with rfl | hz
      · omega
      · have := h1 z hz; omega
/-- A packet of the stream arrives. -/
theorem take_at {at_ : Nat} {G : List Seg} (h : Ch at_ G) {k m : Nat} {E : List Er} (e : EI at_ G k m E) (hm : m ≤ 8) (hmg : m ≤ G.length) (hk : k ≤ m) {i : Nat} (hi : i < m) :
    ∃ k' E', k ≤ k' ∧ k' ≤ m ∧ EI at_ G k' m E' ∧ take (rcvAt at_ G k E) (dataP (i + 1) (G[i]'(by omega))) = (rcvAt at_ G k' E', (G.drop k).take (k' - k), true) ∧ (∀ x ∈ E, x.s < k' + 1 ∨ x ∈ E') ∧ (i < k' ∨ ∃ x ∈ E', x.s = i + 1) ∧ (i < k → k' = k ∧ E' = E) := by
  have hig : i < G.length := by omega
  have h1 := e.receiving h hm (by omega)
  have hin := h.inn i hig
  have hok : (logOf (G[i]'hig)).2 = 0 := of_decide_eq_true (h.ok i hig)
  obtain ⟨s, hs⟩ : ∃ s, logOf (G[i]'hig) = (s, 0) := ⟨(logOf (G[i]'hig)).1, by rw [← hok]⟩
  obtain ⟨hb, hu⟩ := unbody_body (b := []) hin hs
  unfold take
  rw [dataP_open (by omega) hin]
  unfold take1
  simp only
  rw [if_neg (by rw [h1]; simp [rcvAt]; omega), hb, hu]
  unfold take3
  rw [if_neg (by simp)]
  by_cases hold : (decide (i + 1 < (rcvAt at_ G k E).n) || has (i + 1) (rcvAt at_ G k E).e) = true
  · rw [if_pos hold]
    refine ⟨k, E, Nat.le_refl _, hk, e, by simp, fun x hx => .inr hx, ?_, fun _ => ⟨rfl, rfl⟩⟩
    rw [Bool.or_eq_true] at hold
    rcases hold with hold | hold
    · have hold := of_decide_eq_true hold
      simp only [rcvAt] at hold
      exact .inl (by omega)
    · unfold has at hold
      rw [List.any_eq_true] at hold
      obtain ⟨x, hx, hxs⟩ := hold
      exact .inr ⟨x, hx, of_decide_eq_true hxs⟩
  · rw [if_neg hold]
    rw [Bool.or_eq_true, not_or] at hold
    obtain ⟨o1, o2⟩ := hold
    have hki : k ≤ i := by
      rw [decide_eq_true_iff] at o1
      simp only [rcvAt] at o1
      omega
    have hne : ∀ y ∈ E, y.s ≠ i + 1 := fun y hy hq => o2 (by unfold has; rw [List.any_eq_true]; exact ⟨y, hy, decide_eq_true hq⟩)
    obtain ⟨k', E', q1, q2, q3, q4, q5, q6⟩ := drain_at h m (ins ⟨i + 1, G[i]'hig⟩ E) k (by omega) (fun y hy => by
      rcases mem_ins.1 hy with rfl | hy
      · exact ⟨i, hig, hi, hki, rfl⟩
      · obtain ⟨j, hj, hjm, hkj, rfl⟩ := e.mem y hy
        exact ⟨j, hj, hjm, by omega, rfl⟩) (ins_asc _ E e.asc hne)
    refine ⟨k', E', q1, q6 hk, q3, ?_, fun x hx => q5 x (mem_ins.2 (.inr hx)), ?_, fun hik => by omega⟩
    · show ((drain (k + 1) (pos at_ G k) (ins ⟨i + 1, G[i]⟩ E)).1, (drain (k + 1) (pos at_ G k) (ins ⟨i + 1, G[i]⟩ E)).2, true) = _
      rw [q4]
    · rcases q5 ⟨i + 1, G[i]'hig⟩ (mem_ins.2 (.inl rfl)) with q | q
      · simp only at q; exact .inl (by omega)
      · exact .inr ⟨_, q, rfl⟩
theorem EI.nil (at_ : Nat) (G : List Seg) (k m : Nat) : EI at_ G k m [] := ⟨fun x hx => by simp at hx, List.Pairwise.nil⟩
/-- The next packet arrives, nothing is early. -/
theorem take_next {at_ : Nat} {G : List Seg} (h : Ch at_ G) {k m : Nat} (hm : m ≤ 8) (hmg : m ≤ G.length) (hk : k < m) :
    take (rcvAt at_ G k []) (dataP (k + 1) (G[k]'(by omega))) = (rcvAt at_ G (k + 1) [], [G[k]'(by omega)], true) := by
  have hig : k < G.length := by omega
  have h1 := (EI.nil at_ G k m).receiving h hm (by omega)
  have hin := h.inn k hig
  have hok : (logOf (G[k]'hig)).2 = 0 := of_decide_eq_true (h.ok k hig)
  obtain ⟨s, hs⟩ : ∃ s, logOf (G[k]'hig) = (s, 0) := ⟨(logOf (G[k]'hig)).1, by rw [← hok]⟩
  obtain ⟨hb, hu⟩ := unbody_body (b := []) hin hs
  unfold take
  rw [dataP_open (by omega) hin]
  unfold take1
  simp only
  rw [if_neg (by rw [h1]; simp [rcvAt]), hb, hu]
  unfold take3
  rw [if_neg (by simp), if_neg (by simp [rcvAt, has])]
  simp only [rcvAt]
  have e : ins ⟨k + 1, G[k]⟩ [] = [⟨k + 1, G[k]⟩] := by simp [ins, before]
  rw [e, drain, if_pos rfl, if_pos (h.f k hig)]
  simp only [drain]
  rw [pos_succ at_ G hig]
/-- A packet that cannot be opened changes nothing. -/
theorem take_bad {R : Rcv} {p : List UInt8} (h : (opens p).2.2 ≠ 0) : take R p = (R, [], false) := by
  unfold take take1
  rw [opened_bad _ h, if_pos (by simp)]
theorem packs_at {G : List Seg} : ∀ (n a : Nat), a + n ≤ G.length → packs (a + 1) ((G.drop a).take n) = (List.range n).map fun i => dataP (a + i + 1) (G.getD (a + i) noSeg)
  | 0, a, h => by simp [packs]
  | n + 1, a, h => by
    rw [List.drop_eq_getElem_cons (by omega), List.take_succ_cons, packs, packs_at n (a + 1) (by omega), List.range_succ_eq_map, List.map_cons, List.map_map]
    congr 1
    · rw [Nat.add_zero, List.getD_eq_getElem?_getD, List.getElem?_eq_getElem (by omega)]; rfl
    · refine List.map_congr_left fun i _ => ?_
      simp only [Function.comp]
      rw [show a + 1 + i = a + (i + 1) by omega]
theorem packets_at {at_ : Nat} {G : List Seg} (h : Ch at_ G) {a p : Nat} (hap : a ≤ p) (hp : p ≤ G.length) (h8 : p - a ≤ 8) (hb : a ≤ 1000000) : packets (sndAt at_ G a p) = (List.range (p - a)).map fun i => dataP (a + i + 1) (G.getD (a + i) noSeg) := by
  unfold packets
  rw [if_pos (sending_at h hap hp h8 hb)]
  exact packs_at (p - a) a (by omega)
theorem reply_at {at_ : Nat} {G : List Seg} (h : Ch at_ G) {k m : Nat} {E : List Er} (e : EI at_ G k m E) (hm : m ≤ 8) (hk : k ≤ 1000000) : reply (rcvAt at_ G k E) = ackP (k + 1) (pos at_ G k) := by
  unfold reply
  rw [if_pos (e.receiving h hm hk)]; rfl
end Go.Proofs.Ythpjbffhdaaibaa.St

set_option linter.unusedVariables false
set_option maxRecDepth 100000
namespace Go.Proofs.Ythpjbffhdaaibaa
open Go.RowKit Go.Sort
namespace Lgc
open Lg Strs
def OpensTo (r : Nat × List UInt8 × Int) (w : World) (e : Ending) (w' : World) : Prop := e = .returned (.tuple #[.int .u64 r.1, .string ⟨r.2.1.toArray⟩, .int .i64 r.2.2]) ∧ Held w w'
theorem opens_form {l : List UInt8} (h : ((opR l).2.2 || decide ((opR l).2.1.length ≠ 8)) = true) : opens l = (0, [], 1900) := by unfold opens; rw [if_pos h]
theorem opens_sum {l : List UInt8} (h : ¬ ((opR l).2.2 || decide ((opR l).2.1.length ≠ 8)) = true) (h2 : be8 (Hs.hash HS (l.take (l.length - 8))) ≠ (opR l).2.1) : opens l = (0, [], 1903) := by unfold opens; rw [if_neg h, if_pos h2]
theorem opens_yes {l : List UInt8} (h : ¬ ((opR l).2.2 || decide ((opR l).2.1.length ≠ 8)) = true) (h2 : ¬ be8 (Hs.hash HS (l.take (l.length - 8))) ≠ (opR l).2.1) : opens l = ((numR l false).1, (opR l).1, 0) := by unfold opens; rw [if_neg h, if_neg h2]
theorem bytesR_drop {n : Nat} {l : List UInt8} {b : Bool} (h : (bytesR n l b).2.2 = false) : (bytesR n l b).2.1.length ≤ l.length := (bytesR_len n l b).2
theorem opR_len (l : List UInt8) : (opR l).2.1.length ≤ l.length := by
  unfold opR dataR
  exact Nat.le_trans (bytesR_len _ _ _).2 (Nat.le_trans (numR_len _ _) (numR_len _ _))
theorem ret_op {n : Int} {s : ByteArray} {l : List UInt8} {e : Int} (h : s.data.toList = l) : Ending.returned (.tuple #[.int .u64 n, .string s, .int .i64 e]) = .returned (.tuple #[.int .u64 n, .string ⟨l.toArray⟩, .int .i64 e]) := by rw [str_mk h]
set_option maxHeartbeats 1000000 in
theorem open_any (s : ByteArray) (hs : (s.size : Int) ≤ 1000000000000) (w : World) : Calls Try.prog 66 #[.string s] w (OpensTo (opens s.data.toList) w) := by
  have hle := opR_len s.data.toList
  have hle1 := numR_len s.data.toList false
  rw [len_eq] at hle hle1
  have HF := Lib.hid (@opens_form s.data.toList)
  have HS1 := Lib.hid (@opens_sum s.data.toList)
  have HY := Lib.hid (@opens_yes s.data.toList)
  have HLS := Lib.hid (len_eq s)
  have hnum := Lib.hid (number_any w.heap.size s false (by omega) (w.alloc (.cells #[.string s, .bool false] 119)) (box_new _ _))
  have hop : opR s.data.toList = dataR (numR s.data.toList false).2.1 (numR s.data.toList false).2.2 := rfl
  obtain ⟨⟨n, l1, b1⟩, hN⟩ : ∃ x, numR s.data.toList false = x := ⟨_, rfl⟩
  obtain ⟨⟨d, l2, b2⟩, hO⟩ : ∃ x, opR s.data.toList = x := ⟨_, rfl⟩
  rw [hN] at hop hnum HY hle1
  rw [hO] at hop HF HS1 HY hle
  simp only at hop hnum HF HS1 HY hle hle1
  have HOP := Lib.hid hop
  clear hop hN hO
  go_enter Try.func66, Try.ntmps66
  go_wp2_with fail
  refine hnum.out.mono ?_
  rintro e w1 ⟨rfl, s1, hs1, hb1, hg1⟩
  have hz1 : s1.size ≤ 9223372036854775807 := by rw [← len_eq, hs1]; omega
  have hdat := Lib.hid (data_any w.heap.size s1 b1 hz1 w1 hb1)
  rw [hs1, ← HOP.out] at hdat
  have HW1 : Hid (Held w w1) := held_of ((Held.refl w).alloc _) hg1 (Nat.le_refl _)
  clear hs1 hb1 hg1 hnum
  go_wp2_with fail
  refine hdat.out.mono ?_
  rintro e w2 ⟨t, rfl, ht, s2, hs2, hb2, hg2⟩
  have HW2 : Hid (Held w w2) := held_of HW1.out hg2 (Nat.le_refl _)
  have hz2 : (s2.size : Int) ≤ 1000000000000 := by rw [← len_eq, hs2]; omega
  have hz3 : s2.size ≤ s.size := by rw [← len_eq, hs2]; exact hle
  have c0 : w2.cell? ⟨w.heap.size, 0, none⟩ = some (.string s2) := box_cell hb2 0 rfl
  have c1 : w2.cell? ⟨w.heap.size, 1, none⟩ = some (.bool b2) := box_cell hb2 1 rfl
  have lt := box_lt hb2
  have HT := Lib.hid ht
  have HS2 := Lib.hid hs2
  have hl2 : l2.length = s2.size := by rw [← HS2.out, len_eq]
  have HL2 := Lib.hid hl2
  clear ht hs2 hb2 hg2 hdat hl2 hle hle1
  cases b2
  · by_cases h8 : s2.size = 8
    · have h8' : ((s2.size : Int) != 8) = false := by simp [h8]
      have hz4 : (8 : Int) ≤ (s.size : Int) := by omega
      have hsub : (s.extract 0 (s.size - 8)).data.toList = s.data.toList.take (s.data.toList.length - 8) := by rw [ext_take, len_eq]
      have HSB := Lib.hid hsub
      have H8 := Lib.hid h8
      have k0 := cell_regrown c0
      have HN8 : Hid (¬ (false || decide (l2.length ≠ 8)) = true) := by
        show ¬ _
        have := HL2.out
        rw [this, h8]; simp
      clear hsub h8
      have cA := Lib.hid fun dd os => Calls.regrown_of (d := dd) (os := os) (sum_any (s.extract 0 (s.size - 8)) (by rw [ByteArray.size_extract]; omega) (grow (redrawn w2 dd) os))
      rw [HSB.out] at cA
      have i1 : (0 : Int) ≤ (s.size : Int) - 8 := by omega
      have i2 : IntKind.i64.wrap ((s.size : Int) - 8) = (s.size : Int) - 8 := IntWalk.i64_in _ (by omega)
      have i3 : ((s.size : Int) - 8).toNat = s.size - 8 := by omega
      have htl : s2.toList = l2 := by rw [ByteArray.toList_eq]; exact HS2.out
      generalize be8 (Hs.hash HS (s.data.toList.take (s.data.toList.length - 8))) = q at *
      by_cases hq : q = l2
      · have hne2 : (q == s2.toList) = true := by rw [htl]; simp [hq]
        have H := Lib.hid (HY.out HN8.out (by simp [hq]))
        clear htl hq
        go_wp2
        refine wp_region_quiet_below (by kernel_rfl) (by kernel_rfl) ?_
        repeat (go_big_quiet_step (first | (go_at_call 65; exact cA.out _ _)))
        refine wpQuiet_nil ?_
        intro _ hw'
        obtain ⟨⟨dq, osq⟩, hw''⟩ := hw'
        subst hw''
        go_wp2
        go_ret3
        exact ⟨by rw [H.out]; exact ret_op HT.out, HW2.out.step (below_regrown w2 dq osq)⟩
      · have hne2 : (q == s2.toList) = false := by rw [htl]; simp [hq]
        have H := Lib.hid (HS1.out HN8.out hq)
        clear htl hq
        go_wp2
        refine wp_region_quiet_below (by kernel_rfl) (by kernel_rfl) ?_
        repeat (go_big_quiet_step (first | (go_at_call 65; exact cA.out _ _)))
        refine wpQuiet_nil ?_
        intro _ hw'
        obtain ⟨⟨dq, osq⟩, hw''⟩ := hw'
        subst hw''
        go_wp2
        go_ret3
        exact ⟨by rw [H.out]; rfl, HW2.out.step (below_regrown w2 dq osq)⟩
    · have h8' : ((s2.size : Int) != 8) = true := by simp; omega
      have H := Lib.hid (HF.out (by rw [HL2.out]; simp [h8]))
      clear h8
      go_wp2
      go_ret3
      exact ⟨by rw [H.out]; rfl, HW2.out⟩
  · have H := Lib.hid (HF.out rfl)
    go_wp2
    go_ret3
    exact ⟨by rw [H.out]; rfl, HW2.out⟩
end Lgc
end Go.Proofs.Ythpjbffhdaaibaa

set_option linter.unusedVariables false
set_option linter.unusedSimpArgs false
set_option maxRecDepth 100000
namespace Go.Proofs.Ythpjbffhdaaibaa
open Go.RowKit Go.Lib
namespace Mem
/-- A call that has turned a box of the call's own. -/
theorem callBx {W w w' : World} {H : List Ck} (h : Mem W w H) (i : Nat) {b : Nat} {cs cs' : Array Value} {t : TypeId} (hi : H[i]? = some (.box b cs t)) (hg : w.grownBy w' (some b)) (hb : w'.heap[b]? = some (.cells cs' t (0, 0))) : Mem W w' (H.set i (.box b cs' t)) := by
  refine h.upd hi _ ⟨hg.os, hg.tape, hg.output, hg.size, fun k hk => absurd hk (Nat.not_lt_zero k)⟩ (fun b' hlt hb' => hg.block b' hlt (fun q => hb' (by injection q with q; simp [Ck.box, q]))) hb (fun b' hb' => .inl hb')
end Mem
namespace Enc
open Uv Lg Lgc Strs
def wordR (l : List UInt8) (bad : Bool) : Nat × List UInt8 × Bool := if 4294967295 < (numR l bad).1 then (0, (numR l bad).2.1, true) else numR l bad
theorem wordR_put (x : Nat) (hx : x ≤ 4294967295) (t : List UInt8) : wordR (put x ++ t) false = (x, t, false) := by
  unfold wordR
  rw [numR_put x (by omega) t, if_neg (by simp only; omega)]
theorem word_any (b : Nat) (s : ByteArray) (bad : Bool) (hs : s.size ≤ 9223372036854775807) (w : World) (hb : w.heap[b]? = some (.cells #[.string s, .bool bad] 119 (0, 0))) :
    Calls Try.prog 80 #[.pointer (some ⟨b, 0, none⟩)] w (Reads 119 (.int .u32 (wordR s.data.toList bad).1) b (wordR s.data.toList bad).2.1 (wordR s.data.toList bad).2.2 w) := by
  have hlt := numR_lt s.data.toList bad
  have hn := number_any b s bad hs w hb
  obtain ⟨x, t, b2, hnr⟩ : ∃ x t b2, numR s.data.toList bad = (x, t, b2) := ⟨_, _, _, rfl⟩
  have HW : Is (wordR s.data.toList bad) (if 4294967295 < x then (0, t, true) else (x, t, b2)) := ⟨by unfold wordR; rw [hnr]⟩
  rw [hnr] at hn hlt
  have HN := Lib.hid hn
  clear hnr hn
  by_cases h1 : (4294967295 : Int) < x
  · have HW2 : Is (wordR s.data.toList bad) (0, t, true) := ⟨by rw [HW.out, if_pos (by omega)]⟩
    rw [HW2.out]
    go_enter Try.func80, Try.ntmps80
    go_wp2_with fail
    refine HN.out.mono ?_
    rintro e w1 ⟨rfl, s1, hs1, hb1, hg⟩
    have c1 := box_cell hb1 1 rfl
    have f1 := box_free hb1 1
    have HB := Lib.hid hb1
    have HG := Lib.hid hg
    clear hb1 hg
    go_wp2
    go_ret
    refine ⟨rfl, s1, hs1, ?_, ?_⟩
    · rw [box_set HB.out]; rfl
    · exact grown_trans HG.out (grown_set _ _ _ _)
  · have HW2 : Is (wordR s.data.toList bad) (x, t, b2) := ⟨by rw [HW.out, if_neg (by omega)]⟩
    rw [HW2.out]
    have hx : (x : Int) ≤ 4294967295 := by omega
    go_enter Try.func80, Try.ntmps80
    go_wp2_with fail
    refine HN.out.mono ?_
    rintro e w1 ⟨rfl, s1, hs1, hb1, hg⟩
    have HB := Lib.hid hb1
    have HG := Lib.hid hg
    clear hb1 hg
    go_wp2
    go_ret
    exact ⟨rfl, s1, hs1, HB.out, HG.out⟩
theorem word_len (l : List UInt8) (b : Bool) : (wordR l b).2.1.length ≤ l.length := by
  have := numR_len l b
  unfold wordR; split <;> exact this
theorem word_lt (l : List UInt8) (b : Bool) : (wordR l b).1 ≤ 4294967295 := by
  unfold wordR; split
  · exact Nat.zero_le _
  · omega
/-- An event, read. -/
structure EvV where
  k : Nat
  n : Nat
  d : List UInt8
  t : List UInt8
  b : Bool
def evR (l : List UInt8) (bad : Bool) : EvV :=
  let k := (wordR l bad).1
  let t1 := (wordR l bad).2.1
  let b1 := (wordR l bad).2.2
  if k = 1 ∨ k = 3 ∨ k = 6 then ⟨k, (wordR t1 b1).1, [], (wordR t1 b1).2.1, (wordR t1 b1).2.2⟩
  else if k = 4 then ⟨k, (wordR t1 b1).1, (dataR (wordR t1 b1).2.1 (wordR t1 b1).2.2).1, (dataR (wordR t1 b1).2.1 (wordR t1 b1).2.2).2.1, (dataR (wordR t1 b1).2.1 (wordR t1 b1).2.2).2.2⟩
  else if k = 5 then ⟨k, 0, (dataR t1 b1).1, (dataR t1 b1).2.1, (dataR t1 b1).2.2⟩
  else ⟨k, 0, [], t1, b1⟩
theorem dataR_put2 (d t : List UInt8) (h : d.length < 18446744073709551616) : dataR (put d.length ++ (d ++ t)) false = (d, t, false) := by
  unfold dataR
  rw [numR_put _ h]
  unfold bytesR
  simp
theorem evR_enc {k n : Int} {d : List UInt8} (hv : Ev.ok k n d = true) (hn : 0 ≤ n ∧ n ≤ 4294967295) (t : List UInt8) : evR (encE k n d ++ t) false = ⟨k.toNat, n.toNat, d, t, false⟩ := by
  obtain ⟨b1, b2, b3⟩ := ok_bd hv
  rcases (by omega : (k = 1 ∨ k = 3 ∨ k = 6) ∨ k = 2 ∨ k = 4 ∨ k = 5) with hk | hk | hk | hk
  · rw [encE_1 hk, List.append_assoc]
    unfold evR
    rw [wordR_put _ (by omega)]
    simp only
    rw [if_pos (by omega), wordR_put _ (by omega), ok_1 hv hk]
  · subst hk
    rw [encE_2 rfl]
    unfold evR
    rw [wordR_put _ (by omega)]
    simp only
    rw [if_neg (by decide), if_neg (by decide), if_neg (by decide), (ok_2 hv).1, (ok_2 hv).2]; rfl
  · subst hk
    rw [encE_4 rfl]
    simp only [List.append_assoc]
    unfold evR
    rw [wordR_put _ (by omega)]
    simp only
    rw [if_neg (by decide), if_pos (by decide), wordR_put _ (by omega), dataR_put2 _ _ (by omega)]
  · subst hk
    rw [encE_5 rfl]
    simp only [List.append_assoc]
    unfold evR
    rw [wordR_put _ (by omega)]
    simp only
    rw [if_neg (by decide), if_neg (by decide), if_pos (by decide), dataR_put2 _ _ (by omega), ok_5 hv]; rfl
def EvTo (b : Nat) (v : EvV) (w : World) (e : Ending) (w' : World) : Prop := ∃ ds : ByteArray, e = .returned (.agg #[.int .i64 (v.k : Int), .int .u32 (v.n : Int), .string ds]) ∧ ds.data.toList = v.d ∧ Lgc.Left 119 b v.t v.b w w'
end Enc
end Go.Proofs.Ythpjbffhdaaibaa
