/-
  What came in reads as marks, and as a pager (chapter 36).
-/
import Derived.Test.YtgfbfmgdlbdlhaaRds
import Derived.Test.YtgfbfmgdlbdlhaaPgW
namespace Go.Proofs.Ytgfbfmgdlbdlhaa
open Go.RowKit Go.WideShapes
set_option linter.unusedVariables false
set_option maxRecDepth 100000
namespace Pg
section
variable {w : World} {d : Nat}
theorem rd_bool {cs : List Value} (h : Rds Try.prog w (8 + (d + 1)) 4 cs) : ∃ b, cs = [.bool b] := by
  have hp : parts Try.prog 4 = none := by kernel_rfl
  unfold Rds at h
  rw [hp, Try.underlying4] at h
  exact h
theorem rd_paged {cs : List Value} (h : Rds Try.prog w (8 + (d + 1)) 37 cs) : ∃ (st : Int) (dt : ByteArray) (u : Bool), cs = [.int .i64 st, .string dt, .bool u] ∧ (Lit.int .i64 st).wf = true ∧ dt.size ≤ maxLen := by
  have hv := lvs_of 37 8 (d + 1) (by kernel_rfl) (by kernel_rfl) h
  rw [show leaves Try.prog 8 37 = [3, 9, 4] by kernel_rfl] at hv
  obtain ⟨v0, _, rfl, h0, v1, _, rfl, h1, v2, _, rfl, h2, rfl⟩ := hv
  obtain ⟨r, rfl, w0⟩ := leaf_int Try.underlying3 h0
  obtain ⟨s, rfl, w1⟩ := leaf_string Try.underlying9 h1
  obtain ⟨u, rfl⟩ := leaf_bool Try.underlying4 h2
  exact ⟨r, s, u, rfl, w0, w1⟩
end
section
variable {H : Type} {enc : TypeId × Value → H} {w : World} {base : Nat} {spare : Nat → Bool} {held : Bool} {r : Reach} {b0 : Nat} {v : Value} {d : DataW H} {p : List MemPlace}
theorem agg_of {cs : Array Value} {l : List Value} (h : cs.toList = l) : Value.agg cs = .agg l.toArray := by subst h; simp
theorem in_bools (hv : Value.okWide Try.prog w r b0 22 v) (h : DataW.Trod enc Try.prog w base spare held 22 v d p) :
    ∃ A len cap L, v = .slice A len cap ∧ Sl 1 boC w A len L ∧ (A = none → len = 0) ∧ len ≤ cap ∧ cap ≤ maxLen := by
  obtain ⟨A, len, cap, rfl⟩ := okWide_slice Try.underlying22 hv
  obtain ⟨fuel, hf⟩ := h
  obtain ⟨A', len', cap', e, hs⟩ := leaf_slice (n := 9) Try.underlying22 ⟨10, by omega, rds_of_trod 10 _ _ _ _ hf⟩
  injection e with e1 e2 e3
  subst e1 e2 e3
  obtain ⟨L, hL, _⟩ := hs.sl boC (fun _ => True) (s := 1) (by kernel_rfl) (by decide) (fun cs hr => by
    obtain ⟨b, e⟩ := rd_bool (d := 0) hr
    exact ⟨b, e, trivial⟩)
  exact ⟨A, len, cap, L, rfl, hL, fun ha => by have := hs.2.2.1 ha; have := hs.1; omega, hs.1, hs.2.1⟩
theorem in_pager (hv : Value.okWide Try.prog w r b0 32 v) (h : DataW.Trod enc Try.prog w base spare held 32 v d p) :
    ∃ A len cap lim hand L, v = .agg #[.slice A len cap, .int .i64 lim, .int .i64 hand] ∧ Sl 3 pgC w A len L ∧ (A = none → len = 0) ∧ len ≤ cap ∧ cap ≤ maxLen ∧ ((Lit.int .i64 lim).wf = true ∧ (Lit.int .i64 hand).wf = true) ∧ ∀ x ∈ L, (Lit.int .i64 x.st).wf = true ∧ x.d.size ≤ maxLen := by
  obtain ⟨cs, rfl, _⟩ := okWide_struct Try.underlying32 hv
  obtain ⟨fuel, hf⟩ := h
  have hv := lvs_of 32 8 10 (by kernel_rfl) (by kernel_rfl) (rds_of_trod 18 _ _ _ _ hf)
  rw [show leaves Try.prog 8 32 = [30, 3, 3] by kernel_rfl] at hv
  obtain ⟨v0, _, hcs, h0, v1, _, rfl, h1, v2, _, rfl, h2, rfl⟩ := hv
  obtain ⟨A, len, cap, rfl, hs⟩ := leaf_slice (n := 9) Try.underlying30 h0
  obtain ⟨lim, rfl, w1⟩ := leaf_int Try.underlying3 h1
  obtain ⟨hand, rfl, w2⟩ := leaf_int Try.underlying3 h2
  obtain ⟨L, hL, hg⟩ := hs.sl pgC (fun x => (Lit.int .i64 x.st).wf = true ∧ x.d.size ≤ maxLen) (s := 3) (by kernel_rfl) (by decide) (fun cs hr => by
    obtain ⟨st, dt, u, e, hw⟩ := rd_paged (d := 0) hr
    exact ⟨⟨st, dt, u⟩, e, hw⟩)
  refine ⟨A, len, cap, lim, hand, L, agg_of ?_, hL, fun ha => by have := hs.2.2.1 ha; have := hs.1; omega, hs.1, hs.2.1, ⟨w1, w2⟩, hg⟩
  simpa [Value.cells] using hcs
end
end Pg
end Go.Proofs.Ytgfbfmgdlbdlhaa
