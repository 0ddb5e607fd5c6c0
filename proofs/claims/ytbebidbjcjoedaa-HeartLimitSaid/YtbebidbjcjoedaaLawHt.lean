/-
  Chapter 27: the law package's check of fixed results; all functions return what the chapter specifies: the walks.
-/
import Derived.Test.YtbebidbjcjoedaaHtR
import Derived.Test.YtbebidbjcjoedaaRds
import Derived.Lib.QuietBelow
import Derived.BigQuiet
namespace Go.Proofs.Ytbebidbjcjoedaa
open Go.RowKit Go.Sort Go.WideShapes
set_option linter.unusedVariables false
set_option linter.unusedSimpArgs false
set_option maxRecDepth 100000
namespace Htc
open Ht Lgc
theorem held_put {W w : World} {b : Nat} (h : Held W w) (hb : W.heap.size ≤ b) (x y z : Value) : Held W (((w.setCell ⟨b, 0, none⟩ x).setCell ⟨b, 1, none⟩ y).setCell ⟨b, 2, none⟩ z) := ((h.set hb _).set hb _).set hb _
theorem rd_det {w : World} {d : Nat} {cs : List Value} (h : Rds Try.prog w (8 + (d + 1)) 24 cs) : ∃ l s n, cs = [.int .i64 l, .int .i64 s, .int .u64 n] ∧ (Lit.int .i64 l).wf = true ∧ (Lit.int .i64 s).wf = true ∧ (Lit.int .u64 n).wf = true := by
  have hv := lvs_of 24 8 (d + 1) (by kernel_rfl) (by kernel_rfl) h
  rw [show leaves Try.prog 8 24 = [3, 3, 22] by kernel_rfl] at hv
  obtain ⟨v0, _, rfl, h0, v1, _, rfl, h1, v2, _, rfl, h2, rfl⟩ := hv
  obtain ⟨l, rfl, w0⟩ := leaf_int Try.underlying3 h0
  obtain ⟨s, rfl, w1⟩ := leaf_int Try.underlying3 h1
  obtain ⟨n, rfl, w2⟩ := leaf_int Try.underlying22 h2
  exact ⟨l, s, n, rfl, w0, w1, w2⟩
theorem agg_of {cs : Array Value} {l : List Value} (h : cs.toList = l) : Value.agg cs = .agg l.toArray := by subst h; simp
theorem in_det {H : Type} {enc : TypeId × Value → H} {w : World} {base : Nat} {spare : Nat → Bool} {held : Bool} {r : Reach} {b0 : Nat} {v : Value} {d : DataW H} {p : List MemPlace} (hv : Value.okWide Try.prog w r b0 24 v) (h : DataW.Trod enc Try.prog w base spare held 24 v d p) :
    ∃ l s n, v = .agg #[.int .i64 l, .int .i64 s, .int .u64 n] ∧ (Lit.int .i64 l).wf = true ∧ (Lit.int .i64 s).wf = true ∧ (Lit.int .u64 n).wf = true := by
  obtain ⟨cs, rfl, _⟩ := okWide_struct Try.underlying24 hv
  obtain ⟨fuel, hf⟩ := h
  obtain ⟨l, s, n, e, hw⟩ := rd_det (d := 0) (rds_of_trod 9 _ _ _ _ hf)
  exact ⟨l, s, n, agg_of e, hw⟩
theorem DB.facts {w : World} {b : Nat} {l s n : Int} (h : DB w b l s n) : (w.cell? ⟨b, 0, none⟩ = some (.int .i64 l) ∧ w.cell? ⟨b, 1, none⟩ = some (.int .i64 s) ∧ w.cell? ⟨b, 2, none⟩ = some (.int .u64 n)) ∧ (w.frozen? ⟨b, 0, none⟩ = false ∧ w.frozen? ⟨b, 1, none⟩ = false ∧ w.frozen? ⟨b, 2, none⟩ = false) ∧ b < w.heap.size := ⟨h.cells, h.free, box_lt h⟩
set_option maxHeartbeats 1000000 in
theorem awake_any (w : World) : Calls Try.prog 7 #[] w fun e w' => e = .returned (.bool true) ∧ Held w w' := by
  have n1 : Hid (∀ w, Calls Try.prog 8 #[.int .i64 2] w fun e w' => e = .returned (.tuple #[.agg #[.int .i64 2, .int .i64 0, .int .u64 0], .bool true]) ∧ Held w w') := fun w => by
    have := new_any 2 w; rw [show newD 2 = (⟨2, 0, 0⟩, true) by simp [newD, vdet]] at this; exact this
  have t1 : Hid (∀ w, Calls Try.prog 16 #[.agg #[.int .i64 2, .int .i64 0, .int .u64 0]] w fun e w' => e = .returned (.agg #[.int .i64 2, .int .i64 1, .int .u64 0]) ∧ Held w w') := fun w => by
    have := tick_any 2 0 0 w; rw [show tick ⟨2, 0, 0⟩ = ⟨2, 1, 0⟩ by simp [tick, vdet]] at this; exact this
  have t2 : Hid (∀ w, Calls Try.prog 16 #[.agg #[.int .i64 2, .int .i64 1, .int .u64 0]] w fun e w' => e = .returned (.agg #[.int .i64 2, .int .i64 2, .int .u64 0]) ∧ Held w w') := fun w => by
    have := tick_any 2 1 0 w; rw [show tick ⟨2, 1, 0⟩ = ⟨2, 2, 0⟩ by simp [tick, vdet]] at this; exact this
  have s1 : Hid (∀ w, Calls Try.prog 18 #[.agg #[.int .i64 2, .int .i64 2, .int .u64 0]] w fun e w' => e = .returned (.bool true) ∧ Held w w') := fun w => by
    have := susp_any 2 2 0 w; rw [show susp ⟨2, 2, 0⟩ = true by simp [susp, vdet]] at this; exact this
  have b1 : Hid (∀ w, Calls Try.prog 10 #[.agg #[.int .i64 2, .int .i64 2, .int .u64 0], .int .u64 1] w fun e w' => e = .returned (.tuple #[.agg #[.int .i64 2, .int .i64 0, .int .u64 1], .bool true]) ∧ Held w w') := fun w => by
    have := beat_any 2 2 0 1 (by decide) (by decide) w; rw [show beat ⟨2, 2, 0⟩ 1 = (⟨2, 0, 1⟩, true) by simp [beat, vdet]] at this; exact this
  have s2 : Hid (∀ w, Calls Try.prog 18 #[.agg #[.int .i64 2, .int .i64 0, .int .u64 1]] w fun e w' => e = .returned (.bool false) ∧ Held w w') := fun w => by
    have := susp_any 2 0 1 w; rw [show susp ⟨2, 0, 1⟩ = false by simp [susp, vdet]] at this; exact this
  have hpl : (packet 7 300).length ≤ 100 := by decide +kernel
  have p1 : Hid (∀ w, Calls Try.prog 20 #[.int .u64 7, .int .u64 300] w fun e w' => e = .returned (.string ⟨(packet 7 300).toArray⟩) ∧ Held w w') := fun w => packet_any 7 300 (by decide) (by decide) w
  have q1 : Hid (∀ w, Calls Try.prog 12 #[.string ⟨(packet 7 300).toArray⟩] w fun e w' => e = .returned (.tuple #[.int .u64 7, .int .u64 300, .bool true]) ∧ Held w w') := fun w => by
    have := parse_any ⟨(packet 7 300).toArray⟩ (by rw [ba_size]; omega) w
    rw [show (⟨(packet 7 300).toArray⟩ : ByteArray).data.toList = packet 7 300 by simp, parse_packet 7 300 (by decide) (by decide)] at this
    exact this
  clear hpl
  generalize packet 7 300 = pk at p1 q1
  go_enter Try.func7, Try.ntmps7
  go_wp2_with fail
  refine (n1.out _).mono ?_
  rintro e w1 ⟨rfl, h1⟩
  have HW1 := Lib.hid (h1.alloc (.cells #[.int .i64 2, .int .i64 0, .int .u64 0] 24))
  have D1 : Hid (DB (w1.alloc (.cells #[.int .i64 2, .int .i64 0, .int .u64 0] 24)) w1.heap.size 2 0 0) := DB.new _ _ _ _
  have hb := h1.le
  clear h1
  go_wp2_with fail
  generalize w1.alloc (.cells #[.int .i64 2, .int .i64 0, .int .u64 0] 24) = wa at HW1 D1 ⊢
  generalize w1.heap.size = B at D1 hb ⊢
  refine (t1.out _).mono ?_
  rintro e w2 ⟨rfl, h2⟩
  go_wp2_with fail
  refine (t2.out _).mono ?_
  rintro e w3 ⟨rfl, h3⟩
  have h23 := h2.step h3
  have D3 := D1.out.held h23
  have HW3 := Lib.hid (HW1.out.step h23)
  have X4 := Lib.hid (D3.bx)
  obtain ⟨⟨c0, c1, c2⟩, ⟨f0, f1, f2⟩, lt⟩ := D3.facts
  clear h2 h3 h23 D3
  go_wp2_with fail
  have D4 : DB (((w3.setCell ⟨B, 0, none⟩ (.int .i64 2)).setCell ⟨B, 1, none⟩ (.int .i64 2)).setCell ⟨B, 2, none⟩ (.int .u64 0)) B 2 2 0 := DB.put X4.out
  have HW4 := Lib.hid (held_put HW3.out hb (.int .i64 2) (.int .i64 2) (.int .u64 0))
  generalize (((w3.setCell ⟨B, 0, none⟩ (.int .i64 2)).setCell ⟨B, 1, none⟩ (.int .i64 2)).setCell ⟨B, 2, none⟩ (.int .u64 0)) = w4 at D4 HW4 ⊢
  clear c0 c1 c2 f0 f1 f2 lt
  refine (s1.out _).mono ?_
  rintro e w5 ⟨rfl, h5⟩
  have D5 := D4.held h5
  have HW5 := Lib.hid (HW4.out.step h5)
  obtain ⟨⟨c0, c1, c2⟩, ⟨f0, f1, f2⟩, lt⟩ := D5.facts
  have X5 := Lib.hid D5
  clear D5 D4 h5
  go_wp2_with fail
  refine (b1.out _).mono ?_
  rintro e w6 ⟨rfl, h6⟩
  have D6 := X5.out.held h6
  have HW6 := Lib.hid (HW5.out.step h6)
  clear c0 c1 c2 f0 f1 f2 lt
  obtain ⟨⟨c0, c1, c2⟩, ⟨f0, f1, f2⟩, lt⟩ := D6.facts
  have X6 := Lib.hid D6.bx
  clear D6 h6
  go_wp2_with fail
  have D7 : DB (((w6.setCell ⟨B, 0, none⟩ (.int .i64 2)).setCell ⟨B, 1, none⟩ (.int .i64 0)).setCell ⟨B, 2, none⟩ (.int .u64 1)) B 2 0 1 := DB.put X6.out
  have HW7 := Lib.hid (held_put HW6.out hb (.int .i64 2) (.int .i64 0) (.int .u64 1))
  generalize (((w6.setCell ⟨B, 0, none⟩ (.int .i64 2)).setCell ⟨B, 1, none⟩ (.int .i64 0)).setCell ⟨B, 2, none⟩ (.int .u64 1)) = w7 at D7 HW7 ⊢
  clear c0 c1 c2 f0 f1 f2 lt
  refine (p1.out _).mono ?_
  rintro e w8 ⟨rfl, h8⟩
  go_wp2_with fail
  refine (q1.out _).mono ?_
  rintro e w9 ⟨rfl, h9⟩
  have h89 := h8.step h9
  have D9 := D7.held h89
  have HW9 := Lib.hid (HW7.out.step h89)
  obtain ⟨⟨c0, c1, c2⟩, _, lt⟩ := D9.facts
  clear h8 h9 h89 D9 D7
  go_wp2_with fail
  refine (s2.out _).mono ?_
  rintro e w10 ⟨rfl, h10⟩
  go_wp2
  go_ret
  exact ⟨rfl, HW9.out.step h10⟩
end Htc
end Go.Proofs.Ytbebidbjcjoedaa
