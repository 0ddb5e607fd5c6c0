/-
  Contracts: the failure detector, of heartbeat and of its reference, computes the plain functions of Ht.
-/
import Derived.Test.YtbebidbjcjoedaaHtP
import Derived.Test.YtbebidbjcjoedaaLgE
set_option linter.unusedVariables false
set_option linter.unusedSimpArgs false
set_option maxRecDepth 100000
namespace Go.Proofs.Ytbebidbjcjoedaa
open Go.RowKit
namespace Htc
open Ht Lgc
def detV (d : Det) : Value := .agg #[.int .i64 d.l, .int .i64 d.s, .int .u64 d.n]
/-- A detector's box. -/
def DB (w : World) (b : Nat) (l s n : Int) : Prop := w.heap[b]? = some (.cells #[.int .i64 l, .int .i64 s, .int .u64 n] 24 (0, 0))
section
variable {w a : World} {b : Nat} {l s n : Int}
theorem DB.held (h : DB w b l s n) (ha : Held w a) : DB a b l s n := (ha.block b (box_lt h)).trans h
theorem DB.cells (h : DB w b l s n) : w.cell? ⟨b, 0, none⟩ = some (.int .i64 l) ∧ w.cell? ⟨b, 1, none⟩ = some (.int .i64 s) ∧ w.cell? ⟨b, 2, none⟩ = some (.int .u64 n) :=
  ⟨box_cell h 0 rfl, box_cell h 1 rfl, box_cell h 2 rfl⟩
theorem DB.free (h : DB w b l s n) : w.frozen? ⟨b, 0, none⟩ = false ∧ w.frozen? ⟨b, 1, none⟩ = false ∧ w.frozen? ⟨b, 2, none⟩ = false := ⟨box_free h 0, box_free h 1, box_free h 2⟩
/-- Some detector's box. -/
def Bx (w : World) (b : Nat) : Prop := ∃ l s n, DB w b l s n
theorem DB.bx (h : DB w b l s n) : Bx w b := ⟨_, _, _, h⟩
theorem DB.put (h : Bx w b) {l' s' n' : Int} : DB (((w.setCell ⟨b, 0, none⟩ (.int .i64 l')).setCell ⟨b, 1, none⟩ (.int .i64 s')).setCell ⟨b, 2, none⟩ (.int .u64 n')) b l' s' n' := by
  obtain ⟨l, s, n, h⟩ := h
  unfold DB at h ⊢
  rw [box_set (box_set (box_set h 0 _) 1 _) 2 _]; rfl
theorem DB.far (h : DB w b l s n) {c j : Nat} {v : Value} (hc : c ≠ b) : DB (w.setCell ⟨c, j, none⟩ v) b l s n := by
  unfold DB at h ⊢
  rw [Below.heap_setCell w _ _ _ (by simpa using (Ne.symm hc))]; exact h
theorem Bx.far (h : Bx w b) {c j : Nat} {v : Value} (hc : c ≠ b) : Bx (w.setCell ⟨c, j, none⟩ v) b := by
  obtain ⟨l, s, n, h⟩ := h
  exact ⟨l, s, n, h.far hc⟩
theorem load_det (h : DB w b l s n) : (loadVar 24 ⟨b, 0, none⟩).run Try.prog w = .ok (.agg #[.int .i64 l, .int .i64 s, .int .u64 n]) w := by
  obtain ⟨c0, c1, c2⟩ := h.cells
  simp [go_sem, c0, c1, c2]
end
theorem DB.new (w : World) (l s n : Int) : DB (w.alloc (.cells #[.int .i64 l, .int .i64 s, .int .u64 n] 24)) w.heap.size l s n := box_new _ _
theorem DB.newAt (w : World) (B : Nat) (hB : w.heap.size = B) (l s n : Int) : DB (w.alloc (.cells #[.int .i64 l, .int .i64 s, .int .u64 n] 24)) B l s n := hB ▸ box_new _ _
theorem res_c {fn : Func} {tmps : Array Value} {w : World} {a b : Nat} {t : TypeId} {v : Value} (hr : fn.results = #[.cell a t]) (ha : tmps.getD a undef = .pointer (some ⟨b, 0, none⟩)) (hl : (loadVar t ⟨b, 0, none⟩).run Try.prog w = .ok v w) : (results fn tmps).run Try.prog w = .ok v w := by
  unfold results
  rw [hr]
  simp only [List.mapM_toArray, List.mapM_cons, List.mapM_nil, ha, asAddr, pure_bind, Sem.run_bind, Sem.run_map, hl, Result.andThen_ok, Sem.run_pure, map_pure]
  rfl
theorem res_ct {fn : Func} {tmps : Array Value} {w : World} {a b k : Nat} {t : TypeId} {v : Value} (hr : fn.results = #[.cell a t, .tmp k]) (ha : tmps.getD a undef = .pointer (some ⟨b, 0, none⟩)) (hl : (loadVar t ⟨b, 0, none⟩).run Try.prog w = .ok v w) : (results fn tmps).run Try.prog w = .ok (.tuple #[v, tmps.getD k undef]) w := by
  unfold results
  rw [hr]
  simp only [List.mapM_toArray, List.mapM_cons, List.mapM_nil, ha, asAddr, pure_bind, Sem.run_bind, Sem.run_map, hl, Result.andThen_ok, Sem.run_pure, map_pure]
  rfl
theorem valid_any (l s n : Int) (w : World) : Calls Try.prog 14 #[.agg #[.int .i64 l, .int .i64 s, .int .u64 n]] w fun e w' => e = .returned (.bool (vdet ⟨l, s, n.toNat⟩)) ∧ Held w w' := by
  by_cases h1 : 1 ≤ l
  · by_cases h2 : l ≤ 20
    · by_cases h3 : 0 ≤ s
      · have H : Hid (vdet ⟨l, s, n.toNat⟩ = decide (s ≤ l)) := show _ = _ by simp [vdet, h1, h2, h3]
        go_enter Try.func14, Try.ntmps14
        go_wp2
        go_ret
        exact ⟨by rw [H.out]; rfl, (Held.refl _).alloc _⟩
      · have H : Hid (vdet ⟨l, s, n.toNat⟩ = false) := show _ = _ by simp [vdet, h3]
        go_enter Try.func14, Try.ntmps14
        go_wp2
        go_ret
        exact ⟨by rw [H.out]; rfl, (Held.refl _).alloc _⟩
    · have H : Hid (vdet ⟨l, s, n.toNat⟩ = false) := show _ = _ by simp [vdet, h2]
      go_enter Try.func14, Try.ntmps14
      go_wp2
      go_ret
      exact ⟨by rw [H.out]; rfl, (Held.refl _).alloc _⟩
  · have H : Hid (vdet ⟨l, s, n.toNat⟩ = false) := show _ = _ by simp [vdet, h1]
    go_enter Try.func14, Try.ntmps14
    go_wp2
    go_ret
    exact ⟨by rw [H.out]; rfl, (Held.refl _).alloc _⟩
theorem new_any (l : Int) (w : World) : Calls Try.prog 8 #[.int .i64 l] w fun e w' => e = .returned (.tuple #[detV (newD l).1, .bool (newD l).2]) ∧ Held w w' := by
  have W0 : Hid (Held w ((w.alloc (.cells #[.int .i64 0, .int .i64 0, .int .u64 0] 24)).alloc (.cells #[.int .i64 l, .int .i64 0, .int .u64 0] 24))) := ((Held.refl w).alloc _).alloc _
  cases hv : vdet ⟨l, 0, 0⟩
  · have H : Hid (newD l = (⟨0, 0, 0⟩, false)) := show _ = _ by simp [newD, hv]
    go_enter Try.func8, Try.ntmps8
    go_wp2_with fail
    refine (valid_any _ _ 0 _).mono ?_
    rintro e w1 ⟨rfl, h1⟩
    simp only [Int.toNat_zero]
    rw [hv]
    have DA : Hid (DB w1 w.heap.size 0 0 0) := ((DB.new w 0 0 0).held ((Held.refl _).alloc _)).held h1
    have DC : Hid (DB w1 (w.heap.size + 1) l 0 0) := (DB.newAt (w.alloc _) _ (by simp) l 0 0).held h1
    obtain ⟨c0, c1, c2⟩ := DA.out.cells
    obtain ⟨d0, d1, d2⟩ := DC.out.cells
    obtain ⟨f0, f1, f2⟩ := DA.out.free
    obtain ⟨g0, g1, g2⟩ := DC.out.free
    have lt := box_lt DC.out
    have lt2 := box_lt DA.out
    have W1 := Lib.hid (W0.out.step h1)
    clear h1
    go_wp2
    refine bodyPost_ret (res_ct Try.results8 rfl (load_det (l := 0) (s :=  0) (n :=  0) (by repeat (first | (with_reducible exact DA.out) | (with_reducible exact DC.out) | (with_reducible exact DA.out.bx) | (with_reducible exact DC.out.bx) | (with_reducible refine DB.put ?_) | ((with_reducible refine DB.far ?_ ?_); rotate_left; (focus (simp; done))) | ((with_reducible refine Bx.far ?_ ?_); rotate_left; (focus (simp; done)))))) ) rfl ⟨by rw [H.out]; rfl, ?_⟩
    exact (by repeat (first | (with_reducible exact W1.out) | ((with_reducible refine Held.set ?_ ?_ _); rotate_left; (focus (simp; done)))))
  · have H : Hid (newD l = (⟨l, 0, 0⟩, true)) := show _ = _ by simp [newD, hv]
    go_enter Try.func8, Try.ntmps8
    go_wp2_with fail
    refine (valid_any _ _ 0 _).mono ?_
    rintro e w1 ⟨rfl, h1⟩
    simp only [Int.toNat_zero]
    rw [hv]
    have DA : Hid (DB w1 w.heap.size 0 0 0) := ((DB.new w 0 0 0).held ((Held.refl _).alloc _)).held h1
    have DC : Hid (DB w1 (w.heap.size + 1) l 0 0) := (DB.newAt (w.alloc _) _ (by simp) l 0 0).held h1
    obtain ⟨c0, c1, c2⟩ := DA.out.cells
    obtain ⟨d0, d1, d2⟩ := DC.out.cells
    obtain ⟨f0, f1, f2⟩ := DA.out.free
    obtain ⟨g0, g1, g2⟩ := DC.out.free
    have lt := box_lt DC.out
    have lt2 := box_lt DA.out
    have W1 := Lib.hid (W0.out.step h1)
    clear h1
    go_wp2
    refine bodyPost_ret (res_ct Try.results8 rfl (load_det (l := l) (s :=  0) (n :=  0) (by repeat (first | (with_reducible exact DA.out) | (with_reducible exact DC.out) | (with_reducible exact DA.out.bx) | (with_reducible exact DC.out.bx) | (with_reducible refine DB.put ?_) | ((with_reducible refine DB.far ?_ ?_); rotate_left; (focus (simp; done))) | ((with_reducible refine Bx.far ?_ ?_); rotate_left; (focus (simp; done)))))) ) rfl ⟨by rw [H.out]; rfl, ?_⟩
    exact (by repeat (first | (with_reducible exact W1.out) | ((with_reducible refine Held.set ?_ ?_ _); rotate_left; (focus (simp; done)))))
set_option maxHeartbeats 2000000 in
theorem tick_any (l s : Int) (n : Nat) (w : World) : Calls Try.prog 16 #[.agg #[.int .i64 l, .int .i64 s, .int .u64 n]] w fun e w' => e = .returned (detV (tick ⟨l, s, n⟩)) ∧ Held w w' := by
  have W0 : Hid (Held w ((w.alloc (.cells #[.int .i64 l, .int .i64 s, .int .u64 n] 24)).alloc (.cells #[.int .i64 0, .int .i64 0, .int .u64 0] 24))) := ((Held.refl w).alloc _).alloc _
  cases hv : vdet ⟨l, s, n⟩
  · have H : Hid (tick ⟨l, s, n⟩ = ⟨l, s, n⟩) := show _ = _ by simp [tick, hv]
    go_enter Try.func16, Try.ntmps16
    go_wp2_with fail
    refine (valid_any _ _ _ _).mono ?_
    rintro e w1 ⟨rfl, h1⟩
    simp only [Int.toNat_natCast]
    rw [hv]
    have DA : Hid (DB w1 w.heap.size l s n) := ((DB.new w l s n).held ((Held.refl _).alloc _)).held h1
    have DC : Hid (DB w1 (w.heap.size + 1) 0 0 0) := (DB.newAt (w.alloc _) _ (by simp) 0 0 0).held h1
    obtain ⟨c0, c1, c2⟩ := DA.out.cells
    obtain ⟨d0, d1, d2⟩ := DC.out.cells
    obtain ⟨f0, f1, f2⟩ := DA.out.free
    obtain ⟨g0, g1, g2⟩ := DC.out.free
    have lt := box_lt DC.out
    have lt2 := box_lt DA.out
    have W1 := Lib.hid (W0.out.step h1)
    clear h1
    go_wp2
    refine bodyPost_ret (res_c Try.results16 rfl (load_det (l := l) (s :=  s) (n :=  n) (by repeat (first | (with_reducible exact DA.out) | (with_reducible exact DC.out) | (with_reducible exact DA.out.bx) | (with_reducible exact DC.out.bx) | (with_reducible refine DB.put ?_) | ((with_reducible refine DB.far ?_ ?_); rotate_left; (focus (simp; done))) | ((with_reducible refine Bx.far ?_ ?_); rotate_left; (focus (simp; done)))))) ) rfl ⟨by rw [H.out]; rfl, ?_⟩
    exact (by repeat (first | (with_reducible exact W1.out) | ((with_reducible refine Held.set ?_ ?_ _); rotate_left; (focus (simp; done)))))
  · obtain ⟨v1, v2, v3, v4⟩ := (vdet_iff _).1 hv
    simp only at v1 v2 v3 v4
    by_cases hsl : s < l
    · have H : Hid (tick ⟨l, s, n⟩ = ⟨l, s + 1, n⟩) := show _ = _ by simp [tick, hv, hsl]
      go_enter Try.func16, Try.ntmps16
      go_wp2_with fail
      refine (valid_any _ _ _ _).mono ?_
      rintro e w1 ⟨rfl, h1⟩
      simp only [Int.toNat_natCast]
      rw [hv]
      have DA : Hid (DB w1 w.heap.size l s n) := ((DB.new w l s n).held ((Held.refl _).alloc _)).held h1
      have DC : Hid (DB w1 (w.heap.size + 1) 0 0 0) := (DB.newAt (w.alloc _) _ (by simp) 0 0 0).held h1
      obtain ⟨c0, c1, c2⟩ := DA.out.cells
      obtain ⟨d0, d1, d2⟩ := DC.out.cells
      obtain ⟨f0, f1, f2⟩ := DA.out.free
      obtain ⟨g0, g1, g2⟩ := DC.out.free
      have lt := box_lt DC.out
      have lt2 := box_lt DA.out
      have W1 := Lib.hid (W0.out.step h1)
      clear h1
      go_wp2
      refine bodyPost_ret (res_c Try.results16 rfl (load_det (l := l) (s :=  s + 1) (n :=  n) (by repeat (first | (with_reducible exact DA.out) | (with_reducible exact DC.out) | (with_reducible exact DA.out.bx) | (with_reducible exact DC.out.bx) | (with_reducible refine DB.put ?_) | ((with_reducible refine DB.far ?_ ?_); rotate_left; (focus (simp; done))) | ((with_reducible refine Bx.far ?_ ?_); rotate_left; (focus (simp; done)))))) ) rfl ⟨by rw [H.out]; rfl, ?_⟩
      exact (by repeat (first | (with_reducible exact W1.out) | ((with_reducible refine Held.set ?_ ?_ _); rotate_left; (focus (simp; done)))))
    · have H : Hid (tick ⟨l, s, n⟩ = ⟨l, s, n⟩) := show _ = _ by simp [tick, hv, hsl]
      obtain rfl : s = l := by omega
      go_enter Try.func16, Try.ntmps16
      go_wp2_with fail
      refine (valid_any _ _ _ _).mono ?_
      rintro e w1 ⟨rfl, h1⟩
      simp only [Int.toNat_natCast]
      rw [hv]
      have DA : Hid (DB w1 w.heap.size s s n) := ((DB.new w s s n).held ((Held.refl _).alloc _)).held h1
      have DC : Hid (DB w1 (w.heap.size + 1) 0 0 0) := (DB.newAt (w.alloc _) _ (by simp) 0 0 0).held h1
      obtain ⟨c0, c1, c2⟩ := DA.out.cells
      obtain ⟨d0, d1, d2⟩ := DC.out.cells
      obtain ⟨f0, f1, f2⟩ := DA.out.free
      obtain ⟨g0, g1, g2⟩ := DC.out.free
      have lt := box_lt DC.out
      have lt2 := box_lt DA.out
      have W1 := Lib.hid (W0.out.step h1)
      clear h1
      go_wp2
      refine bodyPost_ret (res_c Try.results16 rfl (load_det (l := s) (s :=  s) (n :=  n) (by repeat (first | (with_reducible exact DA.out) | (with_reducible exact DC.out) | (with_reducible exact DA.out.bx) | (with_reducible exact DC.out.bx) | (with_reducible refine DB.put ?_) | ((with_reducible refine DB.far ?_ ?_); rotate_left; (focus (simp; done))) | ((with_reducible refine Bx.far ?_ ?_); rotate_left; (focus (simp; done)))))) ) rfl ⟨by rw [H.out]; rfl, ?_⟩
      exact (by repeat (first | (with_reducible exact W1.out) | ((with_reducible refine Held.set ?_ ?_ _); rotate_left; (focus (simp; done)))))
set_option maxHeartbeats 2000000 in
theorem beat_any (l s : Int) (n m : Nat) (hn : (n : Int) ≤ 18446744073709551615) (hm : (m : Int) ≤ 18446744073709551615) (w : World) : Calls Try.prog 10 #[.agg #[.int .i64 l, .int .i64 s, .int .u64 n], .int .u64 m] w fun e w' => e = .returned (.tuple #[detV (beat ⟨l, s, n⟩ m).1, .bool (beat ⟨l, s, n⟩ m).2]) ∧ Held w w' := by
  have W0 : Hid (Held w ((w.alloc (.cells #[.int .i64 l, .int .i64 s, .int .u64 n] 24)).alloc (.cells #[.int .i64 0, .int .i64 0, .int .u64 0] 24))) := ((Held.refl w).alloc _).alloc _
  cases hv : vdet ⟨l, s, n⟩
  · have H : Hid (beat ⟨l, s, n⟩ m = (⟨l, s, n⟩, false)) := show _ = _ by simp [beat, hv]
    go_enter Try.func10, Try.ntmps10
    go_wp2_with fail
    refine (valid_any _ _ _ _).mono ?_
    rintro e w1 ⟨rfl, h1⟩
    simp only [Int.toNat_natCast]
    rw [hv]
    have DA : Hid (DB w1 w.heap.size l s n) := ((DB.new w l s n).held ((Held.refl _).alloc _)).held h1
    have DC : Hid (DB w1 (w.heap.size + 1) 0 0 0) := (DB.newAt (w.alloc _) _ (by simp) 0 0 0).held h1
    obtain ⟨c0, c1, c2⟩ := DA.out.cells
    obtain ⟨d0, d1, d2⟩ := DC.out.cells
    obtain ⟨f0, f1, f2⟩ := DA.out.free
    obtain ⟨g0, g1, g2⟩ := DC.out.free
    have lt := box_lt DC.out
    have lt2 := box_lt DA.out
    have W1 := Lib.hid (W0.out.step h1)
    clear h1
    go_wp2
    refine bodyPost_ret (res_ct Try.results10 rfl (load_det (l := l) (s :=  s) (n :=  n) (by repeat (first | (with_reducible exact DA.out) | (with_reducible exact DC.out) | (with_reducible exact DA.out.bx) | (with_reducible exact DC.out.bx) | (with_reducible refine DB.put ?_) | ((with_reducible refine DB.far ?_ ?_); rotate_left; (focus (simp; done))) | ((with_reducible refine Bx.far ?_ ?_); rotate_left; (focus (simp; done)))))) ) rfl ⟨by rw [H.out]; rfl, ?_⟩
    exact (by repeat (first | (with_reducible exact W1.out) | ((with_reducible refine Held.set ?_ ?_ _); rotate_left; (focus (simp; done)))))
  · by_cases hle : (m : Int) ≤ (n : Int)
    · have H : Hid (beat ⟨l, s, n⟩ m = (⟨l, s, n⟩, false)) := show _ = _ by unfold beat; rw [if_pos (Or.inr (by show m ≤ n; omega))]
      go_enter Try.func10, Try.ntmps10
      go_wp2_with fail
      refine (valid_any _ _ _ _).mono ?_
      rintro e w1 ⟨rfl, h1⟩
      simp only [Int.toNat_natCast]
      rw [hv]
      have DA : Hid (DB w1 w.heap.size l s n) := ((DB.new w l s n).held ((Held.refl _).alloc _)).held h1
      have DC : Hid (DB w1 (w.heap.size + 1) 0 0 0) := (DB.newAt (w.alloc _) _ (by simp) 0 0 0).held h1
      obtain ⟨c0, c1, c2⟩ := DA.out.cells
      obtain ⟨d0, d1, d2⟩ := DC.out.cells
      obtain ⟨f0, f1, f2⟩ := DA.out.free
      obtain ⟨g0, g1, g2⟩ := DC.out.free
      have lt := box_lt DC.out
      have lt2 := box_lt DA.out
      have W1 := Lib.hid (W0.out.step h1)
      clear h1
      go_wp2
      refine bodyPost_ret (res_ct Try.results10 rfl (load_det (l := l) (s :=  s) (n :=  n) (by repeat (first | (with_reducible exact DA.out) | (with_reducible exact DC.out) | (with_reducible exact DA.out.bx) | (with_reducible exact DC.out.bx) | (with_reducible refine DB.put ?_) | ((with_reducible refine DB.far ?_ ?_); rotate_left; (focus (simp; done))) | ((with_reducible refine Bx.far ?_ ?_); rotate_left; (focus (simp; done)))))) ) rfl ⟨by rw [H.out]; rfl, ?_⟩
      exact (by repeat (first | (with_reducible exact W1.out) | ((with_reducible refine Held.set ?_ ?_ _); rotate_left; (focus (simp; done)))))
    · have H : Hid (beat ⟨l, s, n⟩ m = (⟨l, 0, m⟩, true)) := show _ = _ by unfold beat; rw [hv, if_neg (by rintro (h | h); cases h; exact absurd h (by show ¬ m ≤ n; omega))]
      go_enter Try.func10, Try.ntmps10
      go_wp2_with fail
      refine (valid_any _ _ _ _).mono ?_
      rintro e w1 ⟨rfl, h1⟩
      simp only [Int.toNat_natCast]
      rw [hv]
      have DA : Hid (DB w1 w.heap.size l s n) := ((DB.new w l s n).held ((Held.refl _).alloc _)).held h1
      have DC : Hid (DB w1 (w.heap.size + 1) 0 0 0) := (DB.newAt (w.alloc _) _ (by simp) 0 0 0).held h1
      obtain ⟨c0, c1, c2⟩ := DA.out.cells
      obtain ⟨d0, d1, d2⟩ := DC.out.cells
      obtain ⟨f0, f1, f2⟩ := DA.out.free
      obtain ⟨g0, g1, g2⟩ := DC.out.free
      have lt := box_lt DC.out
      have lt2 := box_lt DA.out
      have W1 := Lib.hid (W0.out.step h1)
      clear h1
      go_wp2
      refine bodyPost_ret (res_ct Try.results10 rfl (load_det (l := l) (s :=  0) (n :=  m) (by repeat (first | (with_reducible exact DA.out) | (with_reducible exact DC.out) | (with_reducible exact DA.out.bx) | (with_reducible exact DC.out.bx) | (with_reducible refine DB.put ?_) | ((with_reducible refine DB.far ?_ ?_); rotate_left; (focus (simp; done))) | ((with_reducible refine Bx.far ?_ ?_); rotate_left; (focus (simp; done)))))) ) rfl ⟨by rw [H.out]; rfl, ?_⟩
      exact (by repeat (first | (with_reducible exact W1.out) | ((with_reducible refine Held.set ?_ ?_ _); rotate_left; (focus (simp; done)))))
theorem susp_any (l s : Int) (n : Nat) (w : World) : Calls Try.prog 18 #[.agg #[.int .i64 l, .int .i64 s, .int .u64 n]] w fun e w' => e = .returned (.bool (susp ⟨l, s, n⟩)) ∧ Held w w' := by
  have W0 : Hid (Held w (w.alloc (.cells #[.int .i64 l, .int .i64 s, .int .u64 n] 24))) := (Held.refl w).alloc _
  cases hv : vdet ⟨l, s, n⟩
  · have H : Hid (susp ⟨l, s, n⟩ = false) := show _ = _ by simp [susp, hv]
    go_enter Try.func18, Try.ntmps18
    go_wp2_with fail
    refine (valid_any _ _ _ _).mono ?_
    rintro e w1 ⟨rfl, h1⟩
    simp only [Int.toNat_natCast]
    rw [hv]
    go_wp2
    go_ret
    exact ⟨by rw [H.out]; rfl, W0.out.step h1⟩
  · have H : Hid (susp ⟨l, s, n⟩ = (s == l)) := show _ = _ by simp [susp, hv]; by_cases h : s = l <;> simp [h]
    go_enter Try.func18, Try.ntmps18
    go_wp2_with fail
    refine (valid_any _ _ _ _).mono ?_
    rintro e w1 ⟨rfl, h1⟩
    simp only [Int.toNat_natCast]
    rw [hv]
    have c0 : w1.cell? ⟨w.heap.size, 0, none⟩ = some (.int .i64 l) := h1.cell (by simp)
    have c1 : w1.cell? ⟨w.heap.size, 1, none⟩ = some (.int .i64 s) := h1.cell (by simp)
    go_wp2
    go_ret
    exact ⟨by rw [H.out]; rfl, W0.out.step h1⟩
theorem packet_any (n k : Nat) (hn : (n : Int) ≤ 18446744073709551615) (hk : (k : Int) ≤ 18446744073709551615) (w : World) : Calls Try.prog 20 #[.int .u64 n, .int .u64 k] w (MakesS (packet n k) w) := by
  have hp := Uv.put_len k (by omega)
  have H1 := Lib.hid (Strs.put_any k hk w)
  have HP : Hid (packet n k = Lg.packed n (72 :: Uv.put k)) := rfl
  generalize Uv.put k = a at hp H1 HP
  have hsz : (({ data := #[72] } : ByteArray) ++ { data := a.toArray }).size ≤ 20 := by rw [ByteArray.size_append, ba_size, ba_size, List.length_singleton]; omega
  have hcat : (({ data := #[72] } : ByteArray) ++ { data := a.toArray }).data.toList = 72 :: a := by simp
  have HC := Lib.hid hcat
  have HZ := Lib.hid hsz
  clear hcat hsz
  go_enter Try.func20, Try.ntmps20
  go_wp2_with fail
  refine H1.out.mono ?_
  rintro e w1 ⟨rfl, h1⟩
  have W1 : Hid (Held w w1) := h1
  clear h1
  go_wp2_with fail
  generalize (({ data := #[72] } : ByteArray) ++ { data := a.toArray }) = q at HC HZ ⊢
  refine (pack_any n q hn (by have := HZ.out; omega) _).mono ?_
  rintro e w2 ⟨rfl, h2⟩
  rw [HC.out, ← HP.out]
  go_wp2_with fail
  go_ret
  exact ⟨rfl, W1.out.step h2⟩
theorem valid_ref (l s n : Int) (w : World) : Calls Try.prog 15 #[.agg #[.int .i64 l, .int .i64 s, .int .u64 n]] w fun e w' => e = .returned (.bool (vdet ⟨l, s, n.toNat⟩)) ∧ Held w w' := by
  by_cases h1 : 1 ≤ l
  · by_cases h2 : l ≤ 20
    · by_cases h3 : 0 ≤ s
      · have H : Hid (vdet ⟨l, s, n.toNat⟩ = decide (s ≤ l)) := show _ = _ by simp [vdet, h1, h2, h3]
        go_enter Try.func15, Try.ntmps15
        go_wp2
        go_ret
        exact ⟨by rw [H.out]; rfl, (Held.refl _).alloc _⟩
      · have H : Hid (vdet ⟨l, s, n.toNat⟩ = false) := show _ = _ by simp [vdet, h3]
        go_enter Try.func15, Try.ntmps15
        go_wp2
        go_ret
        exact ⟨by rw [H.out]; rfl, (Held.refl _).alloc _⟩
    · have H : Hid (vdet ⟨l, s, n.toNat⟩ = false) := show _ = _ by simp [vdet, h2]
      go_enter Try.func15, Try.ntmps15
      go_wp2
      go_ret
      exact ⟨by rw [H.out]; rfl, (Held.refl _).alloc _⟩
  · have H : Hid (vdet ⟨l, s, n.toNat⟩ = false) := show _ = _ by simp [vdet, h1]
    go_enter Try.func15, Try.ntmps15
    go_wp2
    go_ret
    exact ⟨by rw [H.out]; rfl, (Held.refl _).alloc _⟩
theorem new_ref (l : Int) (w : World) : Calls Try.prog 9 #[.int .i64 l] w fun e w' => e = .returned (.tuple #[detV (newD l).1, .bool (newD l).2]) ∧ Held w w' := by
  have W0 : Hid (Held w ((w.alloc (.cells #[.int .i64 0, .int .i64 0, .int .u64 0] 24)).alloc (.cells #[.int .i64 l, .int .i64 0, .int .u64 0] 24))) := ((Held.refl w).alloc _).alloc _
  cases hv : vdet ⟨l, 0, 0⟩
  · have H : Hid (newD l = (⟨0, 0, 0⟩, false)) := show _ = _ by simp [newD, hv]
    go_enter Try.func9, Try.ntmps9
    go_wp2_with fail
    refine (valid_ref _ _ 0 _).mono ?_
    rintro e w1 ⟨rfl, h1⟩
    simp only [Int.toNat_zero]
    rw [hv]
    have DA : Hid (DB w1 w.heap.size 0 0 0) := ((DB.new w 0 0 0).held ((Held.refl _).alloc _)).held h1
    have DC : Hid (DB w1 (w.heap.size + 1) l 0 0) := (DB.newAt (w.alloc _) _ (by simp) l 0 0).held h1
    obtain ⟨c0, c1, c2⟩ := DA.out.cells
    obtain ⟨d0, d1, d2⟩ := DC.out.cells
    obtain ⟨f0, f1, f2⟩ := DA.out.free
    obtain ⟨g0, g1, g2⟩ := DC.out.free
    have lt := box_lt DC.out
    have lt2 := box_lt DA.out
    have W1 := Lib.hid (W0.out.step h1)
    clear h1
    go_wp2
    refine bodyPost_ret (res_ct Try.results9 rfl (load_det (l := 0) (s :=  0) (n :=  0) (by repeat (first | (with_reducible exact DA.out) | (with_reducible exact DC.out) | (with_reducible exact DA.out.bx) | (with_reducible exact DC.out.bx) | (with_reducible refine DB.put ?_) | ((with_reducible refine DB.far ?_ ?_); rotate_left; (focus (simp; done))) | ((with_reducible refine Bx.far ?_ ?_); rotate_left; (focus (simp; done)))))) ) rfl ⟨by rw [H.out]; rfl, ?_⟩
    exact (by repeat (first | (with_reducible exact W1.out) | ((with_reducible refine Held.set ?_ ?_ _); rotate_left; (focus (simp; done)))))
  · have H : Hid (newD l = (⟨l, 0, 0⟩, true)) := show _ = _ by simp [newD, hv]
    go_enter Try.func9, Try.ntmps9
    go_wp2_with fail
    refine (valid_ref _ _ 0 _).mono ?_
    rintro e w1 ⟨rfl, h1⟩
    simp only [Int.toNat_zero]
    rw [hv]
    have DA : Hid (DB w1 w.heap.size 0 0 0) := ((DB.new w 0 0 0).held ((Held.refl _).alloc _)).held h1
    have DC : Hid (DB w1 (w.heap.size + 1) l 0 0) := (DB.newAt (w.alloc _) _ (by simp) l 0 0).held h1
    obtain ⟨c0, c1, c2⟩ := DA.out.cells
    obtain ⟨d0, d1, d2⟩ := DC.out.cells
    obtain ⟨f0, f1, f2⟩ := DA.out.free
    obtain ⟨g0, g1, g2⟩ := DC.out.free
    have lt := box_lt DC.out
    have lt2 := box_lt DA.out
    have W1 := Lib.hid (W0.out.step h1)
    clear h1
    go_wp2
    refine bodyPost_ret (res_ct Try.results9 rfl (load_det (l := l) (s :=  0) (n :=  0) (by repeat (first | (with_reducible exact DA.out) | (with_reducible exact DC.out) | (with_reducible exact DA.out.bx) | (with_reducible exact DC.out.bx) | (with_reducible refine DB.put ?_) | ((with_reducible refine DB.far ?_ ?_); rotate_left; (focus (simp; done))) | ((with_reducible refine Bx.far ?_ ?_); rotate_left; (focus (simp; done)))))) ) rfl ⟨by rw [H.out]; rfl, ?_⟩
    exact (by repeat (first | (with_reducible exact W1.out) | ((with_reducible refine Held.set ?_ ?_ _); rotate_left; (focus (simp; done)))))
set_option maxHeartbeats 2000000 in
theorem tick_ref (l s : Int) (n : Nat) (w : World) : Calls Try.prog 17 #[.agg #[.int .i64 l, .int .i64 s, .int .u64 n]] w fun e w' => e = .returned (detV (tick ⟨l, s, n⟩)) ∧ Held w w' := by
  have W0 : Hid (Held w ((w.alloc (.cells #[.int .i64 l, .int .i64 s, .int .u64 n] 24)).alloc (.cells #[.int .i64 0, .int .i64 0, .int .u64 0] 24))) := ((Held.refl w).alloc _).alloc _
  cases hv : vdet ⟨l, s, n⟩
  · have H : Hid (tick ⟨l, s, n⟩ = ⟨l, s, n⟩) := show _ = _ by simp [tick, hv]
    go_enter Try.func17, Try.ntmps17
    go_wp2_with fail
    refine (valid_ref _ _ _ _).mono ?_
    rintro e w1 ⟨rfl, h1⟩
    simp only [Int.toNat_natCast]
    rw [hv]
    have DA : Hid (DB w1 w.heap.size l s n) := ((DB.new w l s n).held ((Held.refl _).alloc _)).held h1
    have DC : Hid (DB w1 (w.heap.size + 1) 0 0 0) := (DB.newAt (w.alloc _) _ (by simp) 0 0 0).held h1
    obtain ⟨c0, c1, c2⟩ := DA.out.cells
    obtain ⟨d0, d1, d2⟩ := DC.out.cells
    obtain ⟨f0, f1, f2⟩ := DA.out.free
    obtain ⟨g0, g1, g2⟩ := DC.out.free
    have lt := box_lt DC.out
    have lt2 := box_lt DA.out
    have W1 := Lib.hid (W0.out.step h1)
    clear h1
    go_wp2
    refine bodyPost_ret (res_c Try.results17 rfl (load_det (l := l) (s :=  s) (n :=  n) (by repeat (first | (with_reducible exact DA.out) | (with_reducible exact DC.out) | (with_reducible exact DA.out.bx) | (with_reducible exact DC.out.bx) | (with_reducible refine DB.put ?_) | ((with_reducible refine DB.far ?_ ?_); rotate_left; (focus (simp; done))) | ((with_reducible refine Bx.far ?_ ?_); rotate_left; (focus (simp; done)))))) ) rfl ⟨by rw [H.out]; rfl, ?_⟩
    exact (by repeat (first | (with_reducible exact W1.out) | ((with_reducible refine Held.set ?_ ?_ _); rotate_left; (focus (simp; done)))))
  · obtain ⟨v1, v2, v3, v4⟩ := (vdet_iff _).1 hv
    simp only at v1 v2 v3 v4
    by_cases hsl : s < l
    · have H : Hid (tick ⟨l, s, n⟩ = ⟨l, s + 1, n⟩) := show _ = _ by simp [tick, hv, hsl]
      go_enter Try.func17, Try.ntmps17
      go_wp2_with fail
      refine (valid_ref _ _ _ _).mono ?_
      rintro e w1 ⟨rfl, h1⟩
      simp only [Int.toNat_natCast]
      rw [hv]
      have DA : Hid (DB w1 w.heap.size l s n) := ((DB.new w l s n).held ((Held.refl _).alloc _)).held h1
      have DC : Hid (DB w1 (w.heap.size + 1) 0 0 0) := (DB.newAt (w.alloc _) _ (by simp) 0 0 0).held h1
      obtain ⟨c0, c1, c2⟩ := DA.out.cells
      obtain ⟨d0, d1, d2⟩ := DC.out.cells
      obtain ⟨f0, f1, f2⟩ := DA.out.free
      obtain ⟨g0, g1, g2⟩ := DC.out.free
      have lt := box_lt DC.out
      have lt2 := box_lt DA.out
      have W1 := Lib.hid (W0.out.step h1)
      clear h1
      go_wp2
      refine bodyPost_ret (res_c Try.results17 rfl (load_det (l := l) (s :=  s + 1) (n :=  n) (by repeat (first | (with_reducible exact DA.out) | (with_reducible exact DC.out) | (with_reducible exact DA.out.bx) | (with_reducible exact DC.out.bx) | (with_reducible refine DB.put ?_) | ((with_reducible refine DB.far ?_ ?_); rotate_left; (focus (simp; done))) | ((with_reducible refine Bx.far ?_ ?_); rotate_left; (focus (simp; done)))))) ) rfl ⟨by rw [H.out]; rfl, ?_⟩
      exact (by repeat (first | (with_reducible exact W1.out) | ((with_reducible refine Held.set ?_ ?_ _); rotate_left; (focus (simp; done)))))
    · have H : Hid (tick ⟨l, s, n⟩ = ⟨l, s, n⟩) := show _ = _ by simp [tick, hv, hsl]
      obtain rfl : s = l := by omega
      go_enter Try.func17, Try.ntmps17
      go_wp2_with fail
      refine (valid_ref _ _ _ _).mono ?_
      rintro e w1 ⟨rfl, h1⟩
      simp only [Int.toNat_natCast]
      rw [hv]
      have DA : Hid (DB w1 w.heap.size s s n) := ((DB.new w s s n).held ((Held.refl _).alloc _)).held h1
      have DC : Hid (DB w1 (w.heap.size + 1) 0 0 0) := (DB.newAt (w.alloc _) _ (by simp) 0 0 0).held h1
      obtain ⟨c0, c1, c2⟩ := DA.out.cells
      obtain ⟨d0, d1, d2⟩ := DC.out.cells
      obtain ⟨f0, f1, f2⟩ := DA.out.free
      obtain ⟨g0, g1, g2⟩ := DC.out.free
      have lt := box_lt DC.out
      have lt2 := box_lt DA.out
      have W1 := Lib.hid (W0.out.step h1)
      clear h1
      go_wp2
      refine bodyPost_ret (res_c Try.results17 rfl (load_det (l := s) (s :=  s) (n :=  n) (by repeat (first | (with_reducible exact DA.out) | (with_reducible exact DC.out) | (with_reducible exact DA.out.bx) | (with_reducible exact DC.out.bx) | (with_reducible refine DB.put ?_) | ((with_reducible refine DB.far ?_ ?_); rotate_left; (focus (simp; done))) | ((with_reducible refine Bx.far ?_ ?_); rotate_left; (focus (simp; done)))))) ) rfl ⟨by rw [H.out]; rfl, ?_⟩
      exact (by repeat (first | (with_reducible exact W1.out) | ((with_reducible refine Held.set ?_ ?_ _); rotate_left; (focus (simp; done)))))
set_option maxHeartbeats 2000000 in
theorem beat_ref (l s : Int) (n m : Nat) (hn : (n : Int) ≤ 18446744073709551615) (hm : (m : Int) ≤ 18446744073709551615) (w : World) : Calls Try.prog 11 #[.agg #[.int .i64 l, .int .i64 s, .int .u64 n], .int .u64 m] w fun e w' => e = .returned (.tuple #[detV (beat ⟨l, s, n⟩ m).1, .bool (beat ⟨l, s, n⟩ m).2]) ∧ Held w w' := by
  have W0 : Hid (Held w ((w.alloc (.cells #[.int .i64 l, .int .i64 s, .int .u64 n] 24)).alloc (.cells #[.int .i64 0, .int .i64 0, .int .u64 0] 24))) := ((Held.refl w).alloc _).alloc _
  cases hv : vdet ⟨l, s, n⟩
  · have H : Hid (beat ⟨l, s, n⟩ m = (⟨l, s, n⟩, false)) := show _ = _ by simp [beat, hv]
    go_enter Try.func11, Try.ntmps11
    go_wp2_with fail
    refine (valid_ref _ _ _ _).mono ?_
    rintro e w1 ⟨rfl, h1⟩
    simp only [Int.toNat_natCast]
    rw [hv]
    have DA : Hid (DB w1 w.heap.size l s n) := ((DB.new w l s n).held ((Held.refl _).alloc _)).held h1
    have DC : Hid (DB w1 (w.heap.size + 1) 0 0 0) := (DB.newAt (w.alloc _) _ (by simp) 0 0 0).held h1
    obtain ⟨c0, c1, c2⟩ := DA.out.cells
    obtain ⟨d0, d1, d2⟩ := DC.out.cells
    obtain ⟨f0, f1, f2⟩ := DA.out.free
    obtain ⟨g0, g1, g2⟩ := DC.out.free
    have lt := box_lt DC.out
    have lt2 := box_lt DA.out
    have W1 := Lib.hid (W0.out.step h1)
    clear h1
    go_wp2
    refine bodyPost_ret (res_ct Try.results11 rfl (load_det (l := l) (s :=  s) (n :=  n) (by repeat (first | (with_reducible exact DA.out) | (with_reducible exact DC.out) | (with_reducible exact DA.out.bx) | (with_reducible exact DC.out.bx) | (with_reducible refine DB.put ?_) | ((with_reducible refine DB.far ?_ ?_); rotate_left; (focus (simp; done))) | ((with_reducible refine Bx.far ?_ ?_); rotate_left; (focus (simp; done)))))) ) rfl ⟨by rw [H.out]; rfl, ?_⟩
    exact (by repeat (first | (with_reducible exact W1.out) | ((with_reducible refine Held.set ?_ ?_ _); rotate_left; (focus (simp; done)))))
  · by_cases hle : (m : Int) ≤ (n : Int)
    · have H : Hid (beat ⟨l, s, n⟩ m = (⟨l, s, n⟩, false)) := show _ = _ by unfold beat; rw [if_pos (Or.inr (by show m ≤ n; omega))]
      go_enter Try.func11, Try.ntmps11
      go_wp2_with fail
      refine (valid_ref _ _ _ _).mono ?_
      rintro e w1 ⟨rfl, h1⟩
      simp only [Int.toNat_natCast]
      rw [hv]
      have DA : Hid (DB w1 w.heap.size l s n) := ((DB.new w l s n).held ((Held.refl _).alloc _)).held h1
      have DC : Hid (DB w1 (w.heap.size + 1) 0 0 0) := (DB.newAt (w.alloc _) _ (by simp) 0 0 0).held h1
      obtain ⟨c0, c1, c2⟩ := DA.out.cells
      obtain ⟨d0, d1, d2⟩ := DC.out.cells
      obtain ⟨f0, f1, f2⟩ := DA.out.free
      obtain ⟨g0, g1, g2⟩ := DC.out.free
      have lt := box_lt DC.out
      have lt2 := box_lt DA.out
      have W1 := Lib.hid (W0.out.step h1)
      clear h1
      go_wp2
      refine bodyPost_ret (res_ct Try.results11 rfl (load_det (l := l) (s :=  s) (n :=  n) (by repeat (first | (with_reducible exact DA.out) | (with_reducible exact DC.out) | (with_reducible exact DA.out.bx) | (with_reducible exact DC.out.bx) | (with_reducible refine DB.put ?_) | ((with_reducible refine DB.far ?_ ?_); rotate_left; (focus (simp; done))) | ((with_reducible refine Bx.far ?_ ?_); rotate_left; (focus (simp; done)))))) ) rfl ⟨by rw [H.out]; rfl, ?_⟩
      exact (by repeat (first | (with_reducible exact W1.out) | ((with_reducible refine Held.set ?_ ?_ _); rotate_left; (focus (simp; done)))))
    · have H : Hid (beat ⟨l, s, n⟩ m = (⟨l, 0, m⟩, true)) := show _ = _ by unfold beat; rw [hv, if_neg (by rintro (h | h); cases h; exact absurd h (by show ¬ m ≤ n; omega))]
      go_enter Try.func11, Try.ntmps11
      go_wp2_with fail
      refine (valid_ref _ _ _ _).mono ?_
      rintro e w1 ⟨rfl, h1⟩
      simp only [Int.toNat_natCast]
      rw [hv]
      have DA : Hid (DB w1 w.heap.size l s n) := ((DB.new w l s n).held ((Held.refl _).alloc _)).held h1
      have DC : Hid (DB w1 (w.heap.size + 1) 0 0 0) := (DB.newAt (w.alloc _) _ (by simp) 0 0 0).held h1
      obtain ⟨c0, c1, c2⟩ := DA.out.cells
      obtain ⟨d0, d1, d2⟩ := DC.out.cells
      obtain ⟨f0, f1, f2⟩ := DA.out.free
      obtain ⟨g0, g1, g2⟩ := DC.out.free
      have lt := box_lt DC.out
      have lt2 := box_lt DA.out
      have W1 := Lib.hid (W0.out.step h1)
      clear h1
      go_wp2
      refine bodyPost_ret (res_ct Try.results11 rfl (load_det (l := l) (s :=  0) (n :=  m) (by repeat (first | (with_reducible exact DA.out) | (with_reducible exact DC.out) | (with_reducible exact DA.out.bx) | (with_reducible exact DC.out.bx) | (with_reducible refine DB.put ?_) | ((with_reducible refine DB.far ?_ ?_); rotate_left; (focus (simp; done))) | ((with_reducible refine Bx.far ?_ ?_); rotate_left; (focus (simp; done)))))) ) rfl ⟨by rw [H.out]; rfl, ?_⟩
      exact (by repeat (first | (with_reducible exact W1.out) | ((with_reducible refine Held.set ?_ ?_ _); rotate_left; (focus (simp; done)))))
theorem susp_ref (l s : Int) (n : Nat) (w : World) : Calls Try.prog 19 #[.agg #[.int .i64 l, .int .i64 s, .int .u64 n]] w fun e w' => e = .returned (.bool (susp ⟨l, s, n⟩)) ∧ Held w w' := by
  have W0 : Hid (Held w (w.alloc (.cells #[.int .i64 l, .int .i64 s, .int .u64 n] 24))) := (Held.refl w).alloc _
  cases hv : vdet ⟨l, s, n⟩
  · have H : Hid (susp ⟨l, s, n⟩ = false) := show _ = _ by simp [susp, hv]
    go_enter Try.func19, Try.ntmps19
    go_wp2_with fail
    refine (valid_ref _ _ _ _).mono ?_
    rintro e w1 ⟨rfl, h1⟩
    simp only [Int.toNat_natCast]
    rw [hv]
    go_wp2
    go_ret
    exact ⟨by rw [H.out]; rfl, W0.out.step h1⟩
  · have H : Hid (susp ⟨l, s, n⟩ = (s == l)) := show _ = _ by simp [susp, hv]; by_cases h : s = l <;> simp [h]
    go_enter Try.func19, Try.ntmps19
    go_wp2_with fail
    refine (valid_ref _ _ _ _).mono ?_
    rintro e w1 ⟨rfl, h1⟩
    simp only [Int.toNat_natCast]
    rw [hv]
    have c0 : w1.cell? ⟨w.heap.size, 0, none⟩ = some (.int .i64 l) := h1.cell (by simp)
    have c1 : w1.cell? ⟨w.heap.size, 1, none⟩ = some (.int .i64 s) := h1.cell (by simp)
    go_wp2
    go_ret
    exact ⟨by rw [H.out]; rfl, W0.out.step h1⟩
theorem packet_ref (n k : Nat) (hn : (n : Int) ≤ 18446744073709551615) (hk : (k : Int) ≤ 18446744073709551615) (w : World) : Calls Try.prog 21 #[.int .u64 n, .int .u64 k] w (MakesS (packet n k) w) := by
  have hp := Uv.put_len k (by omega)
  have H1 := Lib.hid (Strs.put_ref_any k hk w)
  have HP : Hid (packet n k = Lg.packed n (72 :: Uv.put k)) := rfl
  generalize Uv.put k = a at hp H1 HP
  have hsz : (({ data := #[72] } : ByteArray) ++ { data := a.toArray }).size ≤ 20 := by rw [ByteArray.size_append, ba_size, ba_size, List.length_singleton]; omega
  have hcat : (({ data := #[72] } : ByteArray) ++ { data := a.toArray }).data.toList = 72 :: a := by simp
  have HC := Lib.hid hcat
  have HZ := Lib.hid hsz
  clear hcat hsz
  go_enter Try.func21, Try.ntmps21
  go_wp2_with fail
  refine H1.out.mono ?_
  rintro e w1 ⟨rfl, h1⟩
  have W1 : Hid (Held w w1) := h1
  clear h1
  go_wp2_with fail
  generalize (({ data := #[72] } : ByteArray) ++ { data := a.toArray }) = q at HC HZ ⊢
  refine (pack_ref_any n q hn (by have := HZ.out; omega) _).mono ?_
  rintro e w2 ⟨rfl, h2⟩
  rw [HC.out, ← HP.out]
  go_wp2_with fail
  go_ret
  exact ⟨rfl, W1.out.step h2⟩
end Htc
end Go.Proofs.Ytbebidbjcjoedaa
