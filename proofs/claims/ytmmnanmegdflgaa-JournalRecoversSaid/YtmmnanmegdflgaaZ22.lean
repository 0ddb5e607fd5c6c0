/-
  What came in reads as operations and registries (chapter 42).
-/
import Derived.Test.YtmmnanmegdflgaaZ1
import Derived.Test.YtmmnanmegdflgaaZ21
import Derived.OpenShut
set_option linter.unusedVariables false
set_option linter.unusedSimpArgs false
set_option maxRecDepth 100000
namespace Go.Proofs.Ytmmnanmegdflgaa
open Go.RowKit Go.WideShapes Go.ChangeShapes Go.ChangeAt
namespace Jn
open Ad Adm Law39
theorem in_of {z : Int} (h : (Lit.int .i64 z).wf = true) : In z := by
  have := Rw.bd_i64 h
  unfold In
  omega
section
variable {w : World} {d : Nat}
theorem rd_man {cs : List Value} (h : Rds Try.prog w (8 + (d + 1)) 27 cs) : ∃ o : Man, cs = manF o ∧ (Ok o ∧ o.nm.size ≤ maxLen) := by
  have hv := lvs_of 27 8 (d + 1) (by kernel_rfl) (by kernel_rfl) h
  rw [show leaves Try.prog 8 27 = [3, 9, 3, 3, 3, 3, 3, 3, 3, 3, 4] by kernel_rfl] at hv
  obtain ⟨v0, _, rfl, h0, v1, _, rfl, h1, v2, _, rfl, h2, v3, _, rfl, h3, v4, _, rfl, h4, v5, _, rfl, h5, v6, _, rfl, h6, v7, _, rfl, h7, v8, _, rfl, h8, v9, _, rfl, h9, v10, _, rfl, h10, rfl⟩ := hv
  obtain ⟨k, rfl, w0⟩ := leaf_int Try.underlying3 h0
  obtain ⟨nm, rfl, w1⟩ := leaf_string Try.underlying9 h1
  obtain ⟨a, rfl, w2⟩ := leaf_int Try.underlying3 h2
  obtain ⟨b, rfl, w3⟩ := leaf_int Try.underlying3 h3
  obtain ⟨r, rfl, w4⟩ := leaf_int Try.underlying3 h4
  obtain ⟨l, rfl, w5⟩ := leaf_int Try.underlying3 h5
  obtain ⟨c, rfl, w6⟩ := leaf_int Try.underlying3 h6
  obtain ⟨g, rfl, w7⟩ := leaf_int Try.underlying3 h7
  obtain ⟨m, rfl, w8⟩ := leaf_int Try.underlying3 h8
  obtain ⟨q, rfl, w9⟩ := leaf_int Try.underlying3 h9
  obtain ⟨u, rfl⟩ := leaf_bool Try.underlying4 h10
  refine ⟨⟨k, nm, a, b, ⟨r, l, c, g⟩, ⟨m, q, u⟩⟩, rfl, ⟨in_of w0, ?_, by rw [nm_len]; unfold maxLen at w1; simp only; omega⟩, w1⟩
  intro x hx
  simp only [nums, List.mem_cons, List.not_mem_nil, or_false] at hx
  rcases hx with rfl | rfl | rfl | rfl | rfl | rfl | rfl | rfl | rfl
  · exact in_of w2
  · exact in_of w3
  · exact in_of w4
  · exact in_of w5
  · exact in_of w6
  · exact in_of w7
  · exact in_of w8
  · exact in_of w9
  · exact upZ_in _
theorem rd_capJ {cs : List Value} (h : Rds Try.prog w (8 + (d + 1)) 25 cs) : ∃ x : Cap, cs = capC x ∧ True := by
  have hv := lvs_of 25 8 (d + 1) (by kernel_rfl) (by kernel_rfl) h
  rw [show leaves Try.prog 8 25 = [3, 3, 4] by kernel_rfl] at hv
  obtain ⟨v0, _, rfl, h0, v1, _, rfl, h1, v2, _, rfl, h2, rfl⟩ := hv
  obtain ⟨m, rfl, w0⟩ := leaf_int Try.underlying3 h0
  obtain ⟨q, rfl, w1⟩ := leaf_int Try.underlying3 h1
  obtain ⟨u, rfl⟩ := leaf_bool Try.underlying4 h2
  exact ⟨⟨m, q, u⟩, rfl, trivial⟩
theorem rd_plJ {cs : List Value} (h : Rds Try.prog w (8 + (d + 1)) 75 cs) : ∃ x : Pl, cs = plC x ∧ x.d.g ≤ 9223372036854775807 := by
  have hv := lvs_of 75 8 (d + 1) (by kernel_rfl) (by kernel_rfl) h
  rw [show leaves Try.prog 8 75 = [9, 3, 3, 3, 3, 3, 3] by kernel_rfl] at hv
  obtain ⟨v0, _, rfl, h0, v1, _, rfl, h1, v2, _, rfl, h2, v3, _, rfl, h3, v4, _, rfl, h4, v5, _, rfl, h5, v6, _, rfl, h6, rfl⟩ := hv
  obtain ⟨nm, rfl, w0⟩ := leaf_string Try.underlying9 h0
  obtain ⟨r, rfl, w1⟩ := leaf_int Try.underlying3 h1
  obtain ⟨l, rfl, w2⟩ := leaf_int Try.underlying3 h2
  obtain ⟨c, rfl, w3⟩ := leaf_int Try.underlying3 h3
  obtain ⟨g, rfl, w4⟩ := leaf_int Try.underlying3 h4
  obtain ⟨a, rfl, w5⟩ := leaf_int Try.underlying3 h5
  obtain ⟨b, rfl, w6⟩ := leaf_int Try.underlying3 h6
  exact ⟨⟨nm, ⟨r, l, c, g⟩, a, b⟩, rfl, (in_of w4).2⟩
end
/-- A registry that came in. -/
structure InR (w : World) (HA : Option Addr) (hn hc : Nat) (GA : Option Addr) (gn gc : Nat) (r : Reg) : Prop where
  reg : RegR w HA hn GA gn r
  caps : Caps HA hn hc GA gn gc
  grp : Grp r
  lh : hn ≤ maxLen
  lg : gn ≤ maxLen
theorem InR.held {w a : World} {HA : Option Addr} {hn hc : Nat} {GA : Option Addr} {gn gc : Nat} {r : Reg} (h : InR w HA hn hc GA gn gc r) (k : Held w a) : InR a HA hn hc GA gn gc r := ⟨h.reg.held k, h.caps, h.grp, h.lh, h.lg⟩
section
variable {H : Type} {enc : TypeId × Value → H} {w : World} {base : Nat} {spare : Nat → Bool} {held : Bool} {r : Reach} {b0 : Nat} {v : Value} {d : DataW H} {p : List MemPlace}
theorem agg_ofJ {cs : Array Value} {l : List Value} (h : (Value.agg cs).cells.toList = l) : Value.agg cs = .agg l.toArray := by
  have : cs.toList = l := by simpa [Value.cells] using h
  rw [← this]
theorem in_man (hv : Value.okWide Try.prog w r b0 27 v) (h : DataW.Trod enc Try.prog w base spare held 27 v d p) :
    ∃ o : Man, v = .agg #[.int .i64 o.k, .string o.nm, .int .i64 o.a, .int .i64 o.b, .int .i64 o.d.r, .int .i64 o.d.l, .int .i64 o.d.c, .int .i64 o.d.g, .int .i64 o.c.m, .int .i64 o.c.c, .bool o.c.up] ∧ (Ok o ∧ o.nm.size ≤ maxLen) := by
  obtain ⟨cs, rfl, _⟩ := okWide_struct Try.underlying27 hv
  obtain ⟨fuel, hf⟩ := h
  obtain ⟨x, e, hx⟩ := rd_man (d := 0) (rds_of_trod 9 _ _ _ _ hf)
  exact ⟨x, agg_ofJ e, hx⟩
theorem in_reg (hv : Value.okWide Try.prog w r b0 37 v) (h : DataW.Trod enc Try.prog w base spare held 37 v d p) :
    ∃ HA hn hc GA gn gc q, v = .agg #[.slice HA hn hc, .slice GA gn gc] ∧ InR w HA hn hc GA gn gc q := by
  obtain ⟨cs, rfl, _⟩ := okWide_struct Try.underlying37 hv
  obtain ⟨fuel, hf⟩ := h
  have hq := lvs_of 37 8 (9 + 1) (by kernel_rfl) (by kernel_rfl) (rds_of_trod 18 _ _ _ _ hf)
  rw [show leaves Try.prog 8 37 = [34, 35] by kernel_rfl] at hq
  obtain ⟨v0, _, e0, h0, v1, _, e1, h1, rfl⟩ := hq
  subst e1
  obtain ⟨HA, hn, hc, rfl, hs⟩ := leaf_slice (n := 9) Try.underlying34 h0
  obtain ⟨GA, gn, gc, rfl, gs⟩ := leaf_slice (n := 9) Try.underlying35 h1
  obtain ⟨Hl, hHl, _⟩ := hs.sl capC (fun _ => True) (s := 3) (by kernel_rfl) (by decide) (fun cs hr => rd_capJ (d := 0) hr)
  obtain ⟨Gl, hGl, gg⟩ := gs.sl plC (fun x => x.d.g ≤ 9223372036854775807) (s := 7) (by kernel_rfl) (by decide) (fun cs hr => rd_plJ (d := 0) hr)
  exact ⟨HA, hn, hc, GA, gn, gc, ⟨Hl, Gl⟩, agg_ofJ e0, ⟨hHl, hGl⟩, ⟨hs.1, gs.1, hs.2.2.1, gs.2.2.1⟩, gg, by have := hs.1; have := hs.2.1; omega, by have := gs.1; have := gs.2.1; omega⟩
end
end Jn
end Go.Proofs.Ytmmnanmegdflgaa
