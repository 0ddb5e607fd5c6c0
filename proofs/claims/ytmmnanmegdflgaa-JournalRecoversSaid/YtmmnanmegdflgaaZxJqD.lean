/-
  Registries that stay beside rows that grow (chapter 42).
-/
import Derived.Test.YtmmnanmegdflgaaZ23
set_option linter.unusedVariables false
set_option linter.unusedSimpArgs false
set_option maxRecDepth 100000
namespace Go.Proofs.Ytmmnanmegdflgaa
open Go.RowKit Go.BigFrame Go.Sort Go.Lib
namespace Mem
variable {W w : World} {H : List Ck} {α : Type} {e : TypeId} {s : Nat} {f : α → List Value}
/-- An append of one element; it tells what grew. -/
theorem wp_appG (h : Mem W w H) (i : Nat) {v : Value} {L : List α} (hi : H[i]? = some (.row e s f W.heap.size v L)) {P : Program} {ops : Array Oper} {rest : List Oper} {o : Oper} {a : Act} {Q : Exit → Act → World → Prop} (hgd : o.guard = none) (sl x : Operand) (t : TypeId)
    (ho : o.op = .call { callee := .builtin .append, args := #[sl, x], argTypes := #[t, t] }) (z : Value) (bytes : Nat) (ht : P.underlying t = some (.slice e)) (hinfo : (P.info? e).map (fun i => (i.zero, i.size, i.bytes)) = some (some z, s, bytes))
    (hzs : z.cells.size = s) (hs0 : 0 < s) (hf : ∀ x, (f x).length = s) (hf1 : ∀ x, ∀ u ∈ f x, u.oneCell' = true) (d : α) (ad : Addr) (c : Nat)
    (hs : a.eval sl = v) (hx : a.eval x = .slice (some ad) 1 c) (hnews : ∀ j u, (f d)[j]? = some u → w.cell? (ad.add j) = some u)
    (n : Nat) (hn : L.length = n) (hb : (n + 1) * bytes ≤ 140737488355328) (hb1 : 1 ≤ bytes)
    (k : ∀ g cap w', Mem W w' (H.set i (.row e s f W.heap.size (.slice (some ⟨g, 0, none⟩) (n + 1) cap) (L ++ [d]))) → w.grownBy w' v.ownBlock → (v.ownBlock = some g ∨ w.heap.size ≤ g) → wpList P ops Q rest (a.put o.dst (.slice (some ⟨g, 0, none⟩) (n + 1) cap)) w') :
    wpList P ops Q (o :: rest) a w := by
  subst hn
  refine Own.app w hgd sl x t ho z bytes ht hinfo hzs hs0 hf hf1 W.heap.size v L d ad c hs (h.row i hi) hx hnews hb hb1 h.le ?_
  intro g cap w' h1 h2 h3 h4
  refine k g cap w' (h.app i hi h2 h1 (fun b hb' => ?_)) h2 (h3.imp id (fun e => by omega))
  have hb' : g = b := by simpa [Value.ownBlock] using hb'
  subst hb'
  exact h3.imp id (fun e => by omega)
end Mem
namespace Jn
open Ad Adm Law39 Lg Lgc Strs
/-- What is read behind A lies not in block g. -/
def Apt (g : Option Nat) (A : Option Addr) (n : Nat) : Prop := n = 0 ∨ ∀ a, A = some a → g ≠ some a.block
theorem Apt.none (A : Option Addr) (n : Nat) : Apt none A n := .inr fun _ _ h => by cases h
theorem Sl.grown {α : Type} {s : Nat} {f : α → List Value} {w w' : World} {A : Option Addr} {n : Nat} {L : List α} (h : Sl s f w A n L) {g : Option Nat} (hg : w.grownBy w' g) (ha : Apt g A n) : Sl s f w' A n L := by
  refine ⟨h.1, ?_⟩
  rcases h.2 with h0 | ⟨b, off, rfl, hb, hc⟩
  · exact .inl h0
  · rcases ha with h0 | ha
    · exact .inl h0
    · refine .inr ⟨b, off, rfl, Nat.lt_of_lt_of_le hb hg.size, fun k hk j v hv => ?_⟩
      have h1 := hg.block b hb (by intro q; first | exact ha _ rfl q | exact ha _ rfl q.symm)
      have h2 := hc k hk j v hv
      simp only [World.cell?, h1] at h2 ⊢
      exact h2
theorem Sl.apt {α : Type} {s : Nat} {f : α → List Value} {w : World} {A : Option Addr} {n : Nat} {L : List α} (h : Sl s f w A n L) {g : Nat} (hg : w.heap.size ≤ g) : Apt (some g) A n := by
  rcases h.2 with h0 | ⟨b, off, rfl, hb, hc⟩
  · exact .inl h0
  · refine .inr fun a ha he => ?_
    injection ha with ha
    subst ha
    injection he with he
    simp only at he
    omega
/-- A registry value. -/
structure RV where
  A1 : Option Addr
  n1 : Nat
  c1 : Nat
  A2 : Option Addr
  n2 : Nat
  c2 : Nat
def rvF (x : RV) : List Value := [.slice x.A1 x.n1 x.c1, .slice x.A2 x.n2 x.c2]
theorem rvF_len (x : RV) : (rvF x).length = 2 := rfl
theorem rvF_one (x : RV) : ∀ u ∈ rvF x, u.oneCell' = true := by intro u hu; simp [rvF] at hu; rcases hu with rfl | rfl <;> rfl
theorem info_reg : (Try.prog.info? 37).map (fun i => (i.zero, i.size, i.bytes)) = some (some (.agg #[.slice none 0 0, .slice none 0 0]), 2, 48) := by kernel_rfl
def inN (z : Int) : List Value := [.int .i64 z]
theorem inN_len (x : Int) : (inN x).length = 1 := rfl
theorem inN_one (x : Int) : ∀ u ∈ inN x, u.oneCell' = true := by intro u hu; simp [inN] at hu; subst hu; rfl
theorem info_int : (Try.prog.info? 3).map (fun i => (i.zero, i.size, i.bytes)) = some (some (.int .i64 0), 1, 8) := by kernel_rfl
theorem nums_in {o : Option Addr} {len cap : Nat} {z : List Int} {W : World} (h : Rw.IsRow .i64 W o len cap z) : ∃ L, Sl 1 inN W o len L ∧ (len : Int) ≤ 9223372036854775807 := by
  obtain ⟨L, hL, hmax, hwf, hcell⟩ := h.view
  refine ⟨L, ⟨hL, hcell.imp id ?_⟩, by unfold maxLen at hmax; omega⟩
  rintro ⟨b, off, e, hb, hc⟩
  refine ⟨b, off, e, hb, fun k hk j v hv => ?_⟩
  rcases j with _ | j
  · simp only [inN, List.getElem?_cons_zero, Option.some.injEq] at hv
    subst hv
    have := hc k hk
    simpa using this
  · simp [inN] at hv
theorem in_at {w a : World} {A : Option Addr} {n : Nat} {L : List Int} (h : Sl 1 inN w A n L) (ha : Held w a) {k : Nat} (hk : k < n) :
    ∃ b off x, A = some ⟨b, off, none⟩ ∧ b < w.heap.size ∧ L[k]? = some x ∧ a.cell? ⟨b, off + k, none⟩ = some (.int .i64 x) := by
  obtain ⟨b, off, x, e, hb, hx, hc⟩ := Sl.at_ h ha hk
  have := hc 0 _ rfl
  rw [Nat.add_zero, Nat.mul_one] at this
  exact ⟨b, off, x, e, hb, hx, this⟩
theorem mg_any (n : Int) : ∃ k nm a b dr dl dc dg cm cc up, mg n = ⟨k, nm, a, b, ⟨dr, dl, dc, dg⟩, ⟨cm, cc, up⟩⟩ := ⟨_, _, _, _, _, _, _, _, _, _, _, rfl⟩
theorem mg_nm (n : Int) : (mg n).nm.size = 1 := rfl
/-- A registry beside two rows. -/
structure RegX (w : World) (e g : Option Nat) (x : RV) (r : Reg) : Prop where
  on : On1 w x.A1 x.n1 x.c1 x.A2 x.n2 x.c2 r
  e1 : Apt e x.A1 x.n1
  e2 : Apt e x.A2 x.n2
  g1 : Apt g x.A1 x.n1
  g2 : Apt g x.A2 x.n2
theorem On1.held {w w' : World} {A1 A2 : Option Addr} {n1 c1 n2 c2 : Nat} {r : Reg} (h : On1 w A1 n1 c1 A2 n2 c2 r) (k : Held w w') : On1 w' A1 n1 c1 A2 n2 c2 r := ⟨h.reg.held k, h.c, h.v⟩
theorem RegX.held {w w' : World} {e g : Option Nat} {x : RV} {r : Reg} (h : RegX w e g x r) (k : Held w w') : RegX w' e g x r := ⟨h.on.held k, h.e1, h.e2, h.g1, h.g2⟩
theorem RegX.put {w : World} {e g : Option Nat} {x : RV} {r : Reg} (h : RegX w e g x r) {c j : Nat} {a : Option Addr} {m k : Nat} (hc : w.cell? ⟨c, j, none⟩ = some (.slice a m k)) (u : Value) : RegX (w.setCell ⟨c, j, none⟩ u) e g x r :=
  ⟨⟨h.on.reg.putSlice hc u, h.on.c, h.on.v⟩, h.e1, h.e2, h.g1, h.g2⟩
theorem RegX.grownE {w w' : World} {e g : Option Nat} {x : RV} {r : Reg} (h : RegX w e g x r) (hg : w.grownBy w' e) {b : Nat} (hb : e = some b ∨ w.heap.size ≤ b) : RegX w' (some b) g x r := by
  refine ⟨⟨⟨Sl.grown h.on.reg.hs hg h.e1, Sl.grown h.on.reg.gs hg h.e2⟩, h.on.c, h.on.v⟩, ?_, ?_, h.g1, h.g2⟩
  · rcases hb with rfl | hb
    · exact h.e1
    · exact Sl.apt h.on.reg.hs hb
  · rcases hb with rfl | hb
    · exact h.e2
    · exact Sl.apt h.on.reg.gs hb
theorem RegX.grownG {w w' : World} {e g : Option Nat} {x : RV} {r : Reg} (h : RegX w e g x r) (hg : w.grownBy w' g) {b : Nat} (hb : g = some b ∨ w.heap.size ≤ b) : RegX w' e (some b) x r := by
  refine ⟨⟨⟨Sl.grown h.on.reg.hs hg h.g1, Sl.grown h.on.reg.gs hg h.g2⟩, h.on.c, h.on.v⟩, h.e1, h.e2, ?_, ?_⟩
  · rcases hb with rfl | hb
    · exact h.g1
    · exact Sl.apt h.on.reg.hs hb
  · rcases hb with rfl | hb
    · exact h.g2
    · exact Sl.apt h.on.reg.gs hb
theorem apt_fresh {w : World} {A : Option Addr} {n : Nat} {e : Option Nat} (h : Fresh w A) (he : ∀ b, e = some b → b < w.heap.size) : Apt e A n :=
  .inr fun a ha hb => by have := h a ha; have := he _ hb; omega
theorem RegX.fresh {w w' : World} {e g : Option Nat} {A1 A2 : Option Addr} {n1 c1 n2 c2 : Nat} {r : Reg} (hr : On1 w' A1 n1 c1 A2 n2 c2 r) (h1 : Fresh w A1) (h2 : Fresh w A2) (he : ∀ b, e = some b → b < w.heap.size) (hg : ∀ b, g = some b → b < w.heap.size) : RegX w' e g ⟨A1, n1, c1, A2, n2, c2⟩ r :=
  ⟨hr, apt_fresh h1 he, apt_fresh h2 he, apt_fresh h1 hg, apt_fresh h2 hg⟩
/-- All registries so far. -/
def Regs (w : World) (e g : Option Nat) (G : List RV) (F : Nat → Reg) : Prop := ∀ i x, G[i]? = some x → RegX w e g x (F i)
theorem Regs.held {w w' : World} {e g : Option Nat} {G : List RV} {F : Nat → Reg} (h : Regs w e g G F) (k : Held w w') : Regs w' e g G F := fun i x hx => (h i x hx).held k
theorem Regs.put {w : World} {e g : Option Nat} {G : List RV} {F : Nat → Reg} (h : Regs w e g G F) {c j : Nat} {a : Option Addr} {m k : Nat} (hc : w.cell? ⟨c, j, none⟩ = some (.slice a m k)) (u : Value) : Regs (w.setCell ⟨c, j, none⟩ u) e g G F := fun i x hx => (h i x hx).put hc u
theorem Regs.grownE {w w' : World} {e g : Option Nat} {G : List RV} {F : Nat → Reg} (h : Regs w e g G F) (hg : w.grownBy w' e) {b : Nat} (hb : e = some b ∨ w.heap.size ≤ b) : Regs w' (some b) g G F := fun i x hx => (h i x hx).grownE hg hb
theorem Regs.grownG {w w' : World} {e g : Option Nat} {G : List RV} {F : Nat → Reg} (h : Regs w e g G F) (hg : w.grownBy w' g) {b : Nat} (hb : g = some b ∨ w.heap.size ≤ b) : Regs w' e (some b) G F := fun i x hx => (h i x hx).grownG hg hb
theorem Regs.snoc {w : World} {e g : Option Nat} {G : List RV} {F : Nat → Reg} {x : RV} {n : Nat} (h : Regs w e g G F) (hx : RegX w e g x (F n)) (hn : G.length = n) : Regs w e g (G ++ [x]) F := by
  intro i y hy
  by_cases hi : i < G.length
  · rw [List.getElem?_append_left hi] at hy
    exact h i y hy
  · rw [List.getElem?_append_right (by omega)] at hy
    have : i = n := by
      rcases Nat.lt_or_ge (i - G.length) 1 with h1 | h1
      · omega
      · rw [List.getElem?_eq_none (by simpa using h1)] at hy; cases hy
    subst this
    rw [hn, Nat.sub_self] at hy
    simp at hy
    subst hy
    exact hx
theorem Regs.one {w : World} : Regs w none none [⟨none, 0, 0, none, 0, 0⟩] (fun i => recov ([] : List Man)) := by
  intro i x hx
  rcases i with _ | i
  · simp at hx
    subst hx
    exact ⟨on1_zero w, Apt.none _ _, Apt.none _ _, Apt.none _ _, Apt.none _ _⟩
  · simp at hx
end Jn
end Go.Proofs.Ytmmnanmegdflgaa
