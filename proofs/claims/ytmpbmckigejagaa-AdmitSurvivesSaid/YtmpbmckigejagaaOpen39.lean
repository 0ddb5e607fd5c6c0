/-
  What came in reads as hosts, demands, placements.
-/
import Derived.Test.YtmpbmckigejagaaRds
import Derived.Test.YtmpbmckigejagaaSv2
namespace Go.Proofs.Ytmpbmckigejagaa
open Go.RowKit Go.WideShapes
set_option linter.unusedVariables false
set_option maxRecDepth 100000
namespace Law39
open Ad Adm
section
variable {w : World} {d : Nat}
theorem rd_dem {cs : List Value} (h : Rds Try.prog w (8 + (d + 1)) 30 cs) : ∃ r l c g, cs = [.int .i64 r, .int .i64 l, .int .i64 c, .int .i64 g] ∧ (Lit.int .i64 r).wf = true ∧ (Lit.int .i64 l).wf = true ∧ (Lit.int .i64 c).wf = true ∧ (Lit.int .i64 g).wf = true := by
  have hv := lvs_of 30 8 (d + 1) (by kernel_rfl) (by kernel_rfl) h
  rw [show leaves Try.prog 8 30 = [3, 3, 3, 3] by kernel_rfl] at hv
  obtain ⟨v0, _, rfl, h0, v1, _, rfl, h1, v2, _, rfl, h2, v3, _, rfl, h3, rfl⟩ := hv
  obtain ⟨r, rfl, w0⟩ := leaf_int Try.underlying3 h0
  obtain ⟨l, rfl, w1⟩ := leaf_int Try.underlying3 h1
  obtain ⟨c, rfl, w2⟩ := leaf_int Try.underlying3 h2
  obtain ⟨g, rfl, w3⟩ := leaf_int Try.underlying3 h3
  exact ⟨r, l, c, g, rfl, w0, w1, w2, w3⟩
theorem rd_cap {cs : List Value} (h : Rds Try.prog w (8 + (d + 1)) 26 cs) : ∃ m c up, cs = [.int .i64 m, .int .i64 c, .bool up] ∧ (Lit.int .i64 m).wf = true ∧ (Lit.int .i64 c).wf = true := by
  have hv := lvs_of 26 8 (d + 1) (by kernel_rfl) (by kernel_rfl) h
  rw [show leaves Try.prog 8 26 = [3, 3, 4] by kernel_rfl] at hv
  obtain ⟨v0, _, rfl, h0, v1, _, rfl, h1, v2, _, rfl, h2, rfl⟩ := hv
  obtain ⟨m, rfl, w0⟩ := leaf_int Try.underlying3 h0
  obtain ⟨c, rfl, w1⟩ := leaf_int Try.underlying3 h1
  obtain ⟨up, rfl⟩ := leaf_bool Try.underlying4 h2
  exact ⟨m, c, up, rfl, w0, w1⟩
theorem rd_pl {cs : List Value} (h : Rds Try.prog w (8 + (d + 1)) 48 cs) : ∃ nm r l c g a b, cs = [.string nm, .int .i64 r, .int .i64 l, .int .i64 c, .int .i64 g, .int .i64 a, .int .i64 b] := by
  have hv := lvs_of 48 8 (d + 1) (by kernel_rfl) (by kernel_rfl) h
  rw [show leaves Try.prog 8 48 = [9, 3, 3, 3, 3, 3, 3] by kernel_rfl] at hv
  obtain ⟨v0, _, rfl, h0, v1, _, rfl, h1, v2, _, rfl, h2, v3, _, rfl, h3, v4, _, rfl, h4, v5, _, rfl, h5, v6, _, rfl, h6, rfl⟩ := hv
  obtain ⟨nm, rfl, w0⟩ := leaf_string Try.underlying9 h0
  obtain ⟨r, rfl, w1⟩ := leaf_int Try.underlying3 h1
  obtain ⟨l, rfl, w2⟩ := leaf_int Try.underlying3 h2
  obtain ⟨c, rfl, w3⟩ := leaf_int Try.underlying3 h3
  obtain ⟨g, rfl, w4⟩ := leaf_int Try.underlying3 h4
  obtain ⟨a, rfl, w5⟩ := leaf_int Try.underlying3 h5
  obtain ⟨b, rfl, w6⟩ := leaf_int Try.underlying3 h6
  exact ⟨nm, r, l, c, g, a, b, rfl⟩
end
section
variable {H : Type} {enc : TypeId × Value → H} {w : World} {base : Nat} {spare : Nat → Bool} {held : Bool} {r : Reach} {b0 : Nat} {v : Value} {d : DataW H} {p : List MemPlace}
theorem agg_of {cs : Array Value} {l : List Value} (h : cs.toList = l) : Value.agg cs = .agg l.toArray := by subst h; simp
theorem in_dem (hv : Value.okWide Try.prog w r b0 30 v) (h : DataW.Trod enc Try.prog w base spare held 30 v d p) :
    ∃ r l c g, v = .agg #[.int .i64 r, .int .i64 l, .int .i64 c, .int .i64 g] ∧ (Lit.int .i64 r).wf = true ∧ (Lit.int .i64 l).wf = true ∧ (Lit.int .i64 c).wf = true ∧ (Lit.int .i64 g).wf = true := by
  obtain ⟨cs, rfl, _⟩ := okWide_struct Try.underlying30 hv
  obtain ⟨fuel, hf⟩ := h
  obtain ⟨r, l, c, g, e, hw⟩ := rd_dem (d := 0) (rds_of_trod 9 _ _ _ _ hf)
  exact ⟨r, l, c, g, agg_of e, hw⟩
theorem in_cap (hv : Value.okWide Try.prog w r b0 26 v) (h : DataW.Trod enc Try.prog w base spare held 26 v d p) :
    ∃ m c up, v = .agg #[.int .i64 m, .int .i64 c, .bool up] ∧ (Lit.int .i64 m).wf = true ∧ (Lit.int .i64 c).wf = true := by
  obtain ⟨cs, rfl, _⟩ := okWide_struct Try.underlying26 hv
  obtain ⟨fuel, hf⟩ := h
  obtain ⟨m, c, up, e, hw⟩ := rd_cap (d := 0) (rds_of_trod 9 _ _ _ _ hf)
  exact ⟨m, c, up, agg_of e, hw⟩
def plC (p : Pl) : List Value := [.string p.nm, .int .i64 p.d.r, .int .i64 p.d.l, .int .i64 p.d.c, .int .i64 p.d.g, .int .i64 p.a, .int .i64 p.b]
def demC' (d : Dem) : List Value := [.int .i64 d.r, .int .i64 d.l, .int .i64 d.c, .int .i64 d.g]
theorem ds_of_sl {A : Option Addr} {n : Nat} {L : List Dem} (h : Sl 4 demC' w A n L) : Ds w A n L := by
  refine ⟨h.1, h.2.imp id ?_⟩
  rintro ⟨b, off, e, hb, hc⟩
  exact ⟨b, off, e, fun k hk => ⟨hc k hk 0 _ rfl, hc k hk 1 _ rfl, hc k hk 2 _ rfl, hc k hk 3 _ rfl⟩⟩
theorem ps_of_sl {A : Option Addr} {n : Nat} {L : List Pl} (h : Sl 7 plC w A n L) : Ps w A n L := by
  refine ⟨h.1, h.2.imp id ?_⟩
  rintro ⟨b, off, e, hb, hc⟩
  exact ⟨b, off, e, fun k hk => ⟨hc k hk 0 _ rfl, hc k hk 1 _ rfl, hc k hk 2 _ rfl, hc k hk 3 _ rfl, hc k hk 4 _ rfl, hc k hk 5 _ rfl, hc k hk 6 _ rfl⟩⟩
theorem in_dems (hv : Value.okWide Try.prog w r b0 27 v) (h : DataW.Trod enc Try.prog w base spare held 27 v d p) :
    ∃ A len cap L, v = .slice A len cap ∧ Ds w A len L ∧ len ≤ cap ∧ cap ≤ maxLen := by
  obtain ⟨A, len, cap, rfl⟩ := okWide_slice Try.underlying27 hv
  obtain ⟨fuel, hf⟩ := h
  obtain ⟨A', len', cap', e, hs⟩ := leaf_slice (n := 9) Try.underlying27 ⟨10, by omega, rds_of_trod 10 _ _ _ _ hf⟩
  injection e with e1 e2 e3
  subst e1 e2 e3
  obtain ⟨L, hL, _⟩ := hs.sl demC' (fun _ => True) (s := 4) (by kernel_rfl) (by decide) (fun cs hr => by
    obtain ⟨r, l, c, g, e, _⟩ := rd_dem (d := 0) hr
    exact ⟨⟨r, l, c, g⟩, e, trivial⟩)
  exact ⟨A, len, cap, L, rfl, ds_of_sl hL, hs.1, hs.2.1⟩
theorem in_caps (hv : Value.okWide Try.prog w r b0 37 v) (h : DataW.Trod enc Try.prog w base spare held 37 v d p) :
    ∃ A len cap L, v = .slice A len cap ∧ Cs w A len L ∧ len ≤ cap ∧ cap ≤ maxLen := by
  obtain ⟨A, len, cap, rfl⟩ := okWide_slice Try.underlying37 hv
  obtain ⟨fuel, hf⟩ := h
  obtain ⟨A', len', cap', e, hs⟩ := leaf_slice (n := 9) Try.underlying37 ⟨10, by omega, rds_of_trod 10 _ _ _ _ hf⟩
  injection e with e1 e2 e3
  subst e1 e2 e3
  obtain ⟨L, hL, _⟩ := hs.sl capC (fun _ => True) (s := 3) (by kernel_rfl) (by decide) (fun cs hr => by
    obtain ⟨m, c, up, e, _⟩ := rd_cap (d := 0) hr
    exact ⟨⟨m, c, up⟩, e, trivial⟩)
  exact ⟨A, len, cap, L, rfl, hL, hs.1, hs.2.1⟩
theorem in_pls (hv : Value.okWide Try.prog w r b0 38 v) (h : DataW.Trod enc Try.prog w base spare held 38 v d p) :
    ∃ A len cap L, v = .slice A len cap ∧ Ps w A len L ∧ len ≤ cap ∧ cap ≤ maxLen := by
  obtain ⟨A, len, cap, rfl⟩ := okWide_slice Try.underlying38 hv
  obtain ⟨fuel, hf⟩ := h
  obtain ⟨A', len', cap', e, hs⟩ := leaf_slice (n := 9) Try.underlying38 ⟨10, by omega, rds_of_trod 10 _ _ _ _ hf⟩
  injection e with e1 e2 e3
  subst e1 e2 e3
  obtain ⟨L, hL, _⟩ := hs.sl plC (fun _ => True) (s := 7) (by kernel_rfl) (by decide) (fun cs hr => by
    obtain ⟨nm, r, l, c, g, a, b, e⟩ := rd_pl (d := 0) hr
    exact ⟨⟨nm, ⟨r, l, c, g⟩, a, b⟩, e, trivial⟩)
  exact ⟨A, len, cap, L, rfl, ps_of_sl hL, hs.1, hs.2.1⟩
end
end Law39
end Go.Proofs.Ytmpbmckigejagaa
