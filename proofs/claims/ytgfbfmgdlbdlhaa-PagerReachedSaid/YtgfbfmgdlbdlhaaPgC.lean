/-
  Contracts: pages of the pager.
-/
import Derived.Test.YtgfbfmgdlbdlhaaPgP
import Derived.Test.YtgfbfmgdlbdlhaaSl
import Derived.Lib.QuietBelow
import Derived.BigQuiet
import Derived.Outline
import Derived.IntWalk
import Derived.Deep.DeepCutAuto
set_option linter.unusedVariables false
set_option linter.unusedSimpArgs false
set_option maxRecDepth 100000
namespace Go.Proofs.Ytgfbfmgdlbdlhaa
open Go.RowKit Go.BigFrame Go.Sort
namespace Bx
theorem cell {w : World} {q : Nat} {cs : Array Value} {t : TypeId} (h : w.heap[q]? = some (.cells cs t (0, 0))) (j : Nat) {v : Value} (hv : cs[j]? = some v) : w.cell? ⟨q, j, none⟩ = some v := by simp [World.cell?, h, hv]
theorem free {w : World} {q : Nat} {cs : Array Value} {t : TypeId} (h : w.heap[q]? = some (.cells cs t (0, 0))) (j : Nat) : w.frozen? ⟨q, j, none⟩ = false := by simp [World.frozen?, h]
theorem set {w : World} {q : Nat} {cs : Array Value} {t : TypeId} (h : w.heap[q]? = some (.cells cs t (0, 0))) (j : Nat) (v : Value) : (w.setCell ⟨q, j, none⟩ v).heap[q]? = some (.cells (cs.setIfInBounds j v) t (0, 0)) := by
  simp only [World.setCell]
  rw [Array.getElem?_modify, if_pos rfl, h]; rfl
theorem far {w : World} {q c j : Nat} {v : Value} (hc : q ≠ c) : (w.setCell ⟨c, j, none⟩ v).heap[q]? = w.heap[q]? := by
  simp only [World.setCell]
  rw [Array.getElem?_modify, if_neg (fun e => hc e.symm)]
theorem new (w : World) (o : Obj) : (w.alloc o).heap[w.heap.size]? = some o := heap_alloc_new w o
theorem lt {w : World} {q : Nat} {o : Obj} (h : w.heap[q]? = some o) : q < w.heap.size := (Array.getElem?_eq_some_iff.1 h).1
theorem held {w a : World} {q : Nat} {o : Obj} (h : w.heap[q]? = some o) (k : Held w a) : a.heap[q]? = some o := (k.block q (lt h)).trans h
theorem res_c {fn : Func} {tmps : Array Value} {w : World} {a b : Nat} {t : TypeId} {v : Value} (hr : fn.results = #[.cell a t]) (ha : tmps.getD a undef = .pointer (some ⟨b, 0, none⟩)) (hl : (loadVar t ⟨b, 0, none⟩).run Try.prog w = .ok v w) : (results fn tmps).run Try.prog w = .ok v w := by
  unfold results
  rw [hr]
  simp only [List.mapM_toArray, List.mapM_cons, List.mapM_nil, ha, asAddr, pure_bind, Sem.run_bind, Sem.run_map, hl, Result.andThen_ok, Sem.run_pure, map_pure]
  rfl
theorem res_ct {fn : Func} {tmps : Array Value} {w : World} {a b k : Nat} {t : TypeId} {v : Value} (hr : fn.results = #[.cell a t, .tmp k]) (ha : tmps.getD a undef = .pointer (some ⟨b, 0, none⟩)) (hl : (loadVar t ⟨b, 0, none⟩).run Try.prog w = .ok v w) : (results fn tmps).run Try.prog w = .ok (.tuple #[v, tmps.getD k undef]) w := by
  unfold results
  rw [hr]
  simp only [List.mapM_toArray, List.mapM_cons, List.mapM_nil, ha, asAddr, pure_bind, Sem.run_bind, Sem.run_map, hl, Result.andThen_ok, Sem.run_pure, map_pure]
  rfl
theorem held3 {W w : World} {b : Nat} (h : Held W w) (hb : W.heap.size ≤ b) (x y z : Value) : Held W (((w.setCell ⟨b, 0, none⟩ x).setCell ⟨b, 1, none⟩ y).setCell ⟨b, 2, none⟩ z) := ((h.set hb _).set hb _).set hb _
theorem ba_size (a : List UInt8) : (⟨a.toArray⟩ : ByteArray).size = a.length := by simp [ByteArray.size]
theorem ba_len (t : ByteArray) : t.data.toList.length = t.size := by simp
end Bx
namespace Pg
/-- A page's box. -/
def PB (w : World) (b : Nat) (x : Pg) : Prop := w.heap[b]? = some (.cells #[.int .i64 x.st, .string x.d, .bool x.u] 37 (0, 0))
theorem PB.load {w : World} {b : Nat} {x : Pg} (h : PB w b x) : (loadVar 37 ⟨b, 0, none⟩).run Try.prog w = .ok (.agg #[.int .i64 x.st, .string x.d, .bool x.u]) w := by
  have c0 := Bx.cell h 0 rfl
  have c1 := Bx.cell h 1 rfl
  have c2 := Bx.cell h 2 rfl
  simp [go_sem, c0, c1, c2]
theorem PB.put {w : World} {b : Nat} {x : Pg} (h : PB w b x) (y : Pg) : PB (((w.setCell ⟨b, 0, none⟩ (.int .i64 y.st)).setCell ⟨b, 1, none⟩ (.string y.d)).setCell ⟨b, 2, none⟩ (.bool y.u)) b y := by
  unfold PB at h ⊢
  rw [Bx.set (Bx.set (Bx.set h 0 _) 1 _) 2 _]; rfl
theorem PB.facts {w : World} {b : Nat} {x : Pg} (h : PB w b x) : (w.cell? ⟨b, 0, none⟩ = some (.int .i64 x.st) ∧ w.cell? ⟨b, 1, none⟩ = some (.string x.d) ∧ w.cell? ⟨b, 2, none⟩ = some (.bool x.u)) ∧ (w.frozen? ⟨b, 0, none⟩ = false ∧ w.frozen? ⟨b, 1, none⟩ = false ∧ w.frozen? ⟨b, 2, none⟩ = false) ∧ b < w.heap.size :=
  ⟨⟨Bx.cell h 0 rfl, Bx.cell h 1 rfl, Bx.cell h 2 rfl⟩, ⟨Bx.free h 0, Bx.free h 1, Bx.free h 2⟩, Bx.lt h⟩
theorem PB.new (w : World) (x : Pg) : PB (w.alloc (.cells #[.int .i64 x.st, .string x.d, .bool x.u] 37)) w.heap.size x := Bx.new _ _
def pgV (x : Pg) : Value := .agg #[.int .i64 x.st, .string x.d, .bool x.u]
def RetP (x : Pg) (w : World) (e : Ending) (w' : World) : Prop := e = .returned (pgV x) ∧ Held w w'
theorem putOut_small {d : ByteArray} (h : (zip d).size ≤ 64) : putOut d = ⟨2, zip d, false⟩ := if_pos h
theorem putOut_big {d : ByteArray} (h : ¬ (zip d).size ≤ 64) : putOut d = ⟨3, d, false⟩ := if_neg h
set_option maxHeartbeats 2000000 in
theorem putOut_any (d : ByteArray) (w : World) (hd : d.size ≤ 1000000) : Calls Try.prog 27 #[.string d] w (RetP (putOut d) w) := by
  have HC := Lib.hid (fun w => Cp.compress_any d w (by omega))
  have H1 := Lib.hid (@putOut_small d)
  have H2 := Lib.hid (@putOut_big d)
  have W0 := Lib.hid ((Held.refl w).alloc (.cells #[.int .i64 0, .string ⟨#[]⟩, .bool false] 37))
  obtain ⟨z, hz⟩ : ∃ z, zip d = z := ⟨_, rfl⟩
  rw [hz] at H1 H2
  have hz' : (⟨(Cp.compress d.data.toList).toArray⟩ : ByteArray) = z := hz
  rw [hz'] at HC
  clear hz hz'
  by_cases h64 : z.size ≤ 64
  · have hi : (z.size : Int) ≤ 64 := by omega
    rw [H1.out h64]
    clear H1 H2
    go_enter Try.func27, Try.ntmps27
    go_wp2_with (go_at_call 42; refine (HC.out _).mono ?_; rintro e w1 ⟨rfl, h1⟩; have B1 := Lib.hid (show PB w1 w.heap.size ⟨0, ⟨#[]⟩, false⟩ from Bx.held (PB.new w ⟨0, ⟨#[]⟩, false⟩) h1); obtain ⟨⟨c0, c1, c2⟩, ⟨f0, f1, f2⟩, hlt⟩ := PB.facts B1.out; have W1 := Lib.hid (W0.out.step h1); clear h1)
    exact bodyPost_ret (Bx.res_c Try.results27 rfl (PB.load (PB.put B1.out ⟨2, z, false⟩))) rfl ⟨rfl, Bx.held3 W1.out (Nat.le_refl _) _ _ _⟩
  · have hi : ¬ (z.size : Int) ≤ 64 := by omega
    rw [H2.out h64]
    clear H1 H2
    go_enter Try.func27, Try.ntmps27
    go_wp2_with (go_at_call 42; refine (HC.out _).mono ?_; rintro e w1 ⟨rfl, h1⟩; have B1 := Lib.hid (show PB w1 w.heap.size ⟨0, ⟨#[]⟩, false⟩ from Bx.held (PB.new w ⟨0, ⟨#[]⟩, false⟩) h1); obtain ⟨⟨c0, c1, c2⟩, ⟨f0, f1, f2⟩, hlt⟩ := PB.facts B1.out; have W1 := Lib.hid (W0.out.step h1); clear h1)
    exact bodyPost_ret (Bx.res_c Try.results27 rfl (PB.load (PB.put B1.out ⟨3, d, false⟩))) rfl ⟨rfl, Bx.held3 W1.out (Nat.le_refl _) _ _ _⟩
set_option maxHeartbeats 2000000 in
theorem content_any (x : Pg) (w : World) (hd : x.d.size ≤ 1000000) : Calls Try.prog 38 #[pgV x] w fun e w' => e = .returned (.string (content x)) ∧ Held w w' := by
  have HC := Lib.hid (fun w => Cp.dec_any x.d 128 w (by omega) (by decide))
  obtain ⟨st, d, u⟩ := x
  by_cases h2 : st = 2
  · subst h2
    show Calls Try.prog 38 #[.agg #[.int .i64 2, .string d, .bool u]] w _
    go_enter Try.func38, Try.ntmps38
    go_wp2_with (go_at_call 47; refine (HC.out _).mono ?_; rintro e w1 ⟨rfl, h1⟩)
    go_ret
    exact ⟨rfl, ((Held.refl w).alloc _).step h1⟩
  · have hc : content ⟨st, d, u⟩ = d := if_neg h2
    have HX := Lib.hid hc
    have h2' : (st == 2) = false := by simp [h2]
    clear h2 hc
    show Calls Try.prog 38 #[.agg #[.int .i64 st, .string d, .bool u]] w _
    go_enter Try.func38, Try.ntmps38
    go_wp2
    go_ret
    exact ⟨by rw [HX.out]; rfl, (Held.refl w).alloc _⟩
end Pg
end Go.Proofs.Ytgfbfmgdlbdlhaa
