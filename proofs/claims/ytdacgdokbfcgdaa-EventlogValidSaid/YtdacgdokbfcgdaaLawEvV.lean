/-
  Chapter 19: validity of events: the walk.
-/
import Derived.Test.YtdacgdokbfcgdaaLawEv
import Derived.Test.YtdacgdokbfcgdaaMkR
set_option linter.unusedVariables false
set_option linter.unusedSimpArgs false
set_option maxRecDepth 100000
namespace Go.Proofs.Ytdacgdokbfcgdaa
open Go.RowKit Go.BigFrame Go.Sort
namespace Enc
open Lgc Lg Rw
/-- Some event whose fields lie in their types. -/
def EvM (w : World) (e : Ending) (w' : World) : Prop := ∃ (k n : Int) (d : ByteArray), e = .returned (.agg #[.int .i64 k, .int .u32 n, .string d]) ∧ (1 ≤ k ∧ k ≤ 6) ∧ (0 ≤ n ∧ n ≤ 4294967295) ∧ d.size ≤ 200 ∧ Held w w'
theorem EvM.mk {w w' : World} {k n : Int} {d : ByteArray} (h1 : 1 ≤ k ∧ k ≤ 6) (h2 : 0 ≤ n ∧ n ≤ 4294967295) (h3 : d.size ≤ 200) (h4 : Held w w') : EvM w (.returned (.agg #[.int .i64 k, .int .u32 n, .string d])) w' := ⟨k, n, d, rfl, h1, h2, h3, h4⟩
theorem held3 {W w : World} {b : Nat} (h : Held W w) (hb : W.heap.size ≤ b) (x y z : Value) : Held W (((w.setCell ⟨b, 0, none⟩ x).setCell ⟨b, 1, none⟩ y).setCell ⟨b, 2, none⟩ z) := ((h.set hb _).set hb _).set hb _
theorem res_c {fn : Func} {tmps : Array Value} {w : World} {a b : Nat} {t : TypeId} {v : Value} (hr : fn.results = #[.cell a t]) (ha : tmps.getD a undef = .pointer (some ⟨b, 0, none⟩)) (hl : (loadVar t ⟨b, 0, none⟩).run Try.prog w = .ok v w) : (results fn tmps).run Try.prog w = .ok v w := by
  unfold results
  rw [hr]
  simp only [List.mapM_toArray, List.mapM_cons, List.mapM_nil, ha, asAddr, pure_bind, Sem.run_bind, Sem.run_map, hl, Result.andThen_ok, Sem.run_pure, map_pure]
  rfl
/-- An event's box. -/
def EB (w : World) (b : Nat) (k n : Int) (d : ByteArray) : Prop := w.heap[b]? = some (.cells #[.int .i64 k, .int .u32 n, .string d] 24 (0, 0))
theorem EB.load {w : World} {b : Nat} {k n : Int} {d : ByteArray} (h : EB w b k n d) : (loadVar 24 ⟨b, 0, none⟩).run Try.prog w = .ok (.agg #[.int .i64 k, .int .u32 n, .string d]) w := by
  have c0 := box_cell h 0 rfl
  have c1 := box_cell h 1 rfl
  have c2 := box_cell h 2 rfl
  simp [go_sem, c0, c1, c2]
theorem EB.put {w : World} {b : Nat} {k n : Int} {d : ByteArray} (h : EB w b k n d) (k' n' : Int) (d' : ByteArray) : EB (((w.setCell ⟨b, 0, none⟩ (.int .i64 k')).setCell ⟨b, 1, none⟩ (.int .u32 n')).setCell ⟨b, 2, none⟩ (.string d')) b k' n' d' := by
  unfold EB at h ⊢
  rw [box_set (box_set (box_set h 0 _) 1 _) 2 _]; rfl
theorem EB.facts {w : World} {b : Nat} {k n : Int} {d : ByteArray} (h : EB w b k n d) : (w.cell? ⟨b, 0, none⟩ = some (.int .i64 k) ∧ w.cell? ⟨b, 1, none⟩ = some (.int .u32 n) ∧ w.cell? ⟨b, 2, none⟩ = some (.string d)) ∧ (w.frozen? ⟨b, 0, none⟩ = false ∧ w.frozen? ⟨b, 1, none⟩ = false ∧ w.frozen? ⟨b, 2, none⟩ = false) ∧ b < w.heap.size :=
  ⟨⟨box_cell h 0 rfl, box_cell h 1 rfl, box_cell h 2 rfl⟩, ⟨box_free h 0, box_free h 1, box_free h 2⟩, box_lt h⟩
theorem EB.new (w : World) (k n : Int) (d : ByteArray) : EB (w.alloc (.cells #[.int .i64 k, .int .u32 n, .string d] 24)) w.heap.size k n d := box_new _ _
set_option maxHeartbeats 2000000 in
theorem event_any (n : Int) (w : World) : Calls Try.prog 6 #[.int .i64 n] w (EvM w) := by
  obtain ⟨v, hv⟩ : ∃ v, Mk.mix n 2 = v := ⟨_, rfl⟩
  have hvl := Mk.mix_lt n 2
  have HM := Lib.hid (fun w => Mk.mix_any n 2 w)
  rw [hv] at hvl HM
  clear hv
  have a1 : bits .and .i64 ((v : Int) / 256) 255 = ((v / 256 &&& 255 : Nat) : Int) := Mk.and_i64 (v / 256) 255 (by omega) (by omega)
  have l1 : v / 256 &&& 255 ≤ 255 := Nat.and_le_right
  generalize v / 256 &&& 255 = x1 at a1 l1
  have hm : (v : Int) % 7 = 0 ∨ (v : Int) % 7 = 1 ∨ (v : Int) % 7 = 2 ∨ (v : Int) % 7 = 3 ∨ (v : Int) % 7 = 4 ∨ (v : Int) % 7 = 5 ∨ (v : Int) % 7 = 6 := by omega
  have hv0 : (0 : Int) ≤ v := by omega
  have hq1 : (0 : Int) ≤ (v : Int) / 256 := by omega
  have hq40 : ((v : Int) / 256) % 40 = ((v / 256 % 40 : Nat) : Int) := by omega
  have hq40b : v / 256 % 40 < 40 := Nat.mod_lt _ (by omega)
  have hq3 : ((v : Int) / 256) % 3 = ((v / 256 % 3 : Nat) : Int) := by omega
  have hq3b : v / 256 % 3 < 3 := Nat.mod_lt _ (by omega)
  generalize v / 256 % 40 = y40 at hq40 hq40b
  generalize v / 256 % 3 = y3 at hq3 hq3b
  have D128 : Hid (∀ w, Calls Try.prog 16 #[.int .i64 v, .int .i64 128] w fun e w' => ∃ l : List UInt8, l.length = 128 ∧ e = .returned (.string ⟨l.toArray⟩) ∧ Held w w') := fun w => Mk.data_any v 128 w (by decide)
  have D40 : Hid (∀ w, Calls Try.prog 16 #[.int .i64 v, .int .i64 (1 + y40)] w fun e w' => ∃ l : List UInt8, l.length = 1 + y40 ∧ e = .returned (.string ⟨l.toArray⟩) ∧ Held w w') := fun w => by
    have := Mk.data_any v (1 + y40) w (by omega)
    rw [Int.natCast_add] at this
    exact this
  have W0 := Lib.hid ((Held.refl w).alloc (.cells #[.int .i64 0, .int .u32 0, .string ⟨#[]⟩] 24))
  rcases hm with hm | hm | hm | hm | hm | hm | hm
  · clear a1 hq40 hq3
    go_enter Try.func6, Try.ntmps6
    go_wp2_with (go_at_call 15; refine (HM.out _).mono ?_; rintro e w' ⟨rfl, rfl⟩)
    refine bodyPost_ret (v := .agg #[.int .i64 2, .int .u32 0, .string ⟨#[]⟩]) (by simp [results, Try.results6, go_sem]) rfl (EvM.mk (by omega) (by omega) (by decide) ?_)
    first | exact W0.out | exact (Held.refl w).alloc _ | exact held3 W0.out (Nat.le_refl _) _ _ _
  · clear hq40 hq3
    go_enter Try.func6, Try.ntmps6
    go_wp2_with (go_at_call 15; refine (HM.out _).mono ?_; rintro e w' ⟨rfl, rfl⟩)
    refine bodyPost_ret (v := .agg #[.int .i64 3, .int .u32 x1, .string ⟨#[]⟩]) (by simp [results, Try.results6, go_sem]) rfl (EvM.mk (by omega) (by omega) (by decide) ?_)
    first | exact W0.out | exact (Held.refl w).alloc _ | exact held3 W0.out (Nat.le_refl _) _ _ _
  · clear hq40 hq3
    go_enter Try.func6, Try.ntmps6
    go_wp2_with (go_at_call 15; refine (HM.out _).mono ?_; rintro e w' ⟨rfl, rfl⟩)
    refine bodyPost_ret (v := .agg #[.int .i64 3, .int .u32 x1, .string ⟨#[]⟩]) (by simp [results, Try.results6, go_sem]) rfl (EvM.mk (by omega) (by omega) (by decide) ?_)
    first | exact W0.out | exact (Held.refl w).alloc _ | exact held3 W0.out (Nat.le_refl _) _ _ _
  · clear a1 hq40 hq3
    go_enter Try.func6, Try.ntmps6
    go_wp2_with (go_at_call 15; refine (HM.out _).mono ?_; rintro e w' ⟨rfl, rfl⟩)
    refine bodyPost_ret (v := .agg #[.int .i64 4, .int .u32 1, .string ⟨#[]⟩]) (by simp [results, Try.results6, go_sem]) rfl (EvM.mk (by omega) (by omega) (by decide) ?_)
    first | exact W0.out | exact (Held.refl w).alloc _ | exact held3 W0.out (Nat.le_refl _) _ _ _
  · clear a1 hq40 hq3
    go_enter Try.func6, Try.ntmps6
    go_wp2_with (first | (go_at_call 15; refine (HM.out _).mono ?_; rintro e w' ⟨rfl, rfl⟩) | (go_at_call 16; refine (D128.out _).mono ?_; rintro e w2 ⟨l, hl, rfl, h2⟩; have B2 := Lib.hid ((h2.block _ (by simp)).trans (EB.new w 0 0 ⟨#[]⟩)); obtain ⟨⟨c0, c1, c2⟩, ⟨f0, f1, f2⟩, hlt⟩ := EB.facts B2.out; have W2 := Lib.hid (W0.out.step h2); have HL := Lib.hid hl; clear h2 hl))
    refine bodyPost_ret (res_c Try.results6 rfl (EB.load (EB.put B2.out 4 1 ⟨l.toArray⟩))) rfl (EvM.mk (by omega) (by omega) (by rw [ba_size, HL.out]; omega) ?_)
    exact held3 W2.out (Nat.le_refl _) _ _ _
  · clear a1 hq3
    go_enter Try.func6, Try.ntmps6
    go_wp2_with (first | (go_at_call 15; refine (HM.out _).mono ?_; rintro e w' ⟨rfl, rfl⟩) | (go_at_call 16; refine (D40.out _).mono ?_; rintro e w2 ⟨l, hl, rfl, h2⟩; have B2 := Lib.hid ((h2.block _ (by simp)).trans (EB.new w 0 0 ⟨#[]⟩)); obtain ⟨⟨c0, c1, c2⟩, ⟨f0, f1, f2⟩, hlt⟩ := EB.facts B2.out; have W2 := Lib.hid (W0.out.step h2); have HL := Lib.hid hl; clear h2 hl))
    refine bodyPost_ret (res_c Try.results6 rfl (EB.load (EB.put B2.out 5 0 ⟨l.toArray⟩))) rfl (EvM.mk (by omega) (by omega) (by rw [ba_size, HL.out]; omega) ?_)
    exact held3 W2.out (Nat.le_refl _) _ _ _
  · clear hq40
    obtain ⟨z, hz⟩ : ∃ z, ((v : Int) / 256) % 4 = z := ⟨_, rfl⟩
    by_cases hz0 : z = 0
    · have hzb : (z == 0) = true := by simp [hz0]
      clear hz0 a1 hq3
      · skip
        go_enter Try.func6, Try.ntmps6
        go_wp2_with (go_at_call 15; refine (HM.out _).mono ?_; rintro e w' ⟨rfl, rfl⟩)
        refine bodyPost_ret (v := .agg #[.int .i64 4, .int .u32 0, .string ⟨#[]⟩]) (by simp [results, Try.results6, go_sem]) rfl (EvM.mk (by omega) (by omega) (by decide) ?_)
        first | exact W0.out | exact (Held.refl w).alloc _ | exact held3 W0.out (Nat.le_refl _) _ _ _
    · have hzb : (z == 0) = false := by simp [hz0]
      clear hz0 a1
      · skip
        go_enter Try.func6, Try.ntmps6
        go_wp2_with (go_at_call 15; refine (HM.out _).mono ?_; rintro e w' ⟨rfl, rfl⟩)
        refine bodyPost_ret (v := .agg #[.int .i64 6, .int .u32 y3, .string ⟨#[]⟩]) (by simp [results, Try.results6, go_sem]) rfl (EvM.mk (by omega) (by omega) (by decide) ?_)
        first | exact W0.out | exact (Held.refl w).alloc _ | exact held3 W0.out (Nat.le_refl _) _ _ _
end Enc
end Go.Proofs.Ytdacgdokbfcgdaa
