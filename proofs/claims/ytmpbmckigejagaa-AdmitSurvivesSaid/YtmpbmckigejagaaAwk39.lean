/-
  The law package of chapter 39's own check of fixed results returns true.
-/
import Derived.Test.YtmpbmckigejagaaLaw39b
namespace Go.Proofs.Ytmpbmckigejagaa
open Go.RowKit
set_option linter.unusedVariables false
set_option maxRecDepth 100000
namespace Law39
open Ad Adm
theorem ds_new1 (w : World) (B : Nat) (hB : B = w.heap.size) (r l c g : Int) : Ds (w.alloc (.cells #[.int .i64 r, .int .i64 l, .int .i64 c, .int .i64 g] 30)) (some ⟨B, 0, none⟩) 1 [⟨r, l, c, g⟩] := by
  subst hB
  refine ⟨rfl, .inr ⟨_, 0, rfl, fun k hk => ?_⟩⟩
  obtain rfl : k = 0 := by simpa using hk
  simp
theorem ds_new2 (w : World) (B : Nat) (hB : B = w.heap.size) (r l c g r' l' c' g' : Int) : Ds (w.alloc (.cells #[.int .i64 r, .int .i64 l, .int .i64 c, .int .i64 g, .int .i64 r', .int .i64 l', .int .i64 c', .int .i64 g'] 30)) (some ⟨B, 0, none⟩) 2 [⟨r, l, c, g⟩, ⟨r', l', c', g'⟩] := by
  subst hB
  refine ⟨rfl, .inr ⟨_, 0, rfl, fun k hk => ?_⟩⟩
  match k, hk with
  | 0, _ => simp
  | 1, _ => simp
/-- What the three local structs hold. -/
def Bx (B : Nat) (w1 : World) : Prop :=
  (w1.cell? ⟨B, 0, none⟩ = some (.int .i64 10) ∧ w1.cell? ⟨B, 1, none⟩ = some (.int .i64 10) ∧ w1.cell? ⟨B, 2, none⟩ = some (.bool true)) ∧
  (w1.cell? ⟨B + 1, 0, none⟩ = some (.int .i64 6) ∧ w1.cell? ⟨B + 1, 1, none⟩ = some (.int .i64 8) ∧ w1.cell? ⟨B + 1, 2, none⟩ = some (.int .i64 5) ∧ w1.cell? ⟨B + 1, 3, none⟩ = some (.int .i64 1)) ∧
  (w1.cell? ⟨B + 1 + 1, 0, none⟩ = some (.int .i64 4) ∧ w1.cell? ⟨B + 1 + 1, 1, none⟩ = some (.int .i64 8) ∧ w1.cell? ⟨B + 1 + 1, 2, none⟩ = some (.int .i64 5) ∧ w1.cell? ⟨B + 1 + 1, 3, none⟩ = some (.int .i64 1))
theorem Bx.held {B : Nat} {w a : World} (h : Bx B w) (ha : Held w a) : Bx B a :=
  ⟨⟨ha.cell h.1.1, ha.cell h.1.2.1, ha.cell h.1.2.2⟩, ⟨ha.cell h.2.1.1, ha.cell h.2.1.2.1, ha.cell h.2.1.2.2.1, ha.cell h.2.1.2.2.2⟩, ⟨ha.cell h.2.2.1, ha.cell h.2.2.2.1, ha.cell h.2.2.2.2.1, ha.cell h.2.2.2.2.2⟩⟩
theorem Bx.lt {B : Nat} {w : World} (h : Bx B w) : B + 1 + 1 < w.heap.size := lt_of_cell h.2.2.1
theorem awake_any (w : World) : Calls Try.prog 7 #[] w fun e w' => e = .returned (.bool true) ∧ Held w w' := by
  have e1 : freeM 10 10 [⟨6, 8, 5, 1⟩] = 4 := by decide +kernel
  have e2 : freeC 10 10 [⟨6, 8, 5, 1⟩] = 5 := by decide +kernel
  have e3 : admit 10 10 true [] ⟨6, 8, 5, 1⟩ = 0 := by decide +kernel
  have e4 : admit 10 10 true [⟨6, 8, 5, 1⟩] ⟨6, 8, 5, 1⟩ = 3901 := by decide +kernel
  have e5 : admit 10 10 true [⟨6, 8, 5, 1⟩] ⟨4, 8, 5, 1⟩ = 3903 := by decide +kernel
  have e6 : fits 10 10 true [⟨6, 8, 5, 1⟩] = true := by decide +kernel
  have e7 : fits 10 10 true [⟨6, 8, 5, 1⟩, ⟨6, 8, 5, 1⟩] = false := by decide +kernel
  go_enter Try.func7, Try.ntmps7
  go_wp2_with fail
  refine (free_any _ _ _ _ _ _ [⟨6, 8, 5, 1⟩] _ (ds_new1 _ _ (by simp) _ _ _ _) (by decide)).mono ?_
  rintro e w1 ⟨rfl, h1⟩
  rw [e1, e2]
  have b1 : Bx w.heap.size w1 := ⟨⟨h1.cell (by simp [go_sem]), h1.cell (by simp [go_sem]), h1.cell (by simp [go_sem])⟩, ⟨h1.cell (by simp [go_sem]), h1.cell (by simp [go_sem]), h1.cell (by simp [go_sem]), h1.cell (by simp [go_sem])⟩, ⟨h1.cell (by simp [go_sem]), h1.cell (by simp [go_sem]), h1.cell (by simp [go_sem]), h1.cell (by simp [go_sem])⟩⟩
  have k1 : Held w w1 := (((((Held.refl w).alloc _).alloc _).alloc _).alloc _).step h1
  have l1 := b1.lt
  have l2 := lt_of_cell b1.2.1.1
  have l3 := lt_of_cell b1.1.1
  obtain ⟨⟨p0, p1, p2⟩, ⟨q0, q1, q2, q3⟩, ⟨r0, r1, r2, r3⟩⟩ := id b1
  have B1 := Lib.hid b1
  have K1 := Lib.hid k1
  clear h1 b1 k1
  go_wp2_with fail
  refine (admit_any _ _ _ _ _ _ [] _ _ _ _ _ ⟨rfl, .inl rfl⟩ (by decide)).mono ?_
  rintro e w2 ⟨rfl, h2⟩
  rw [e3]
  have b2 : Bx w.heap.size w2 := B1.out.held h2
  have k2 : Held w w2 := K1.out.step h2
  clear p0 p1 p2 q0 q1 q2 q3 r0 r1 r2 r3 l1 l2 l3 h2
  have l1 := b2.lt
  have l2 := lt_of_cell b2.2.1.1
  have l3 := lt_of_cell b2.1.1
  obtain ⟨⟨p0, p1, p2⟩, ⟨q0, q1, q2, q3⟩, ⟨r0, r1, r2, r3⟩⟩ := id b2
  have B2 := Lib.hid b2
  have K2 := Lib.hid k2
  clear b2 k2
  go_wp2_with fail
  refine (admit_any _ _ _ _ _ _ [⟨6, 8, 5, 1⟩] _ _ _ _ _ (ds_new1 _ _ rfl _ _ _ _) (by decide)).mono ?_
  rintro e w3 ⟨rfl, h3⟩
  rw [e4]
  have b3 : Bx w.heap.size w3 := B2.out.held (((Held.refl _).alloc _).step h3)
  have k3 : Held w w3 := K2.out.step (((Held.refl _).alloc _).step h3)
  clear p0 p1 p2 q0 q1 q2 q3 r0 r1 r2 r3 l1 l2 l3 h3
  have l1 := b3.lt
  have l2 := lt_of_cell b3.2.1.1
  have l3 := lt_of_cell b3.1.1
  obtain ⟨⟨p0, p1, p2⟩, ⟨q0, q1, q2, q3⟩, ⟨r0, r1, r2, r3⟩⟩ := id b3
  have B3 := Lib.hid b3
  have K3 := Lib.hid k3
  clear b3 k3
  go_wp2_with fail
  refine (admit_any _ _ _ _ _ _ [⟨6, 8, 5, 1⟩] _ _ _ _ _ (ds_new1 _ _ rfl _ _ _ _) (by decide)).mono ?_
  rintro e w4 ⟨rfl, h4⟩
  rw [e5]
  have b4 : Bx w.heap.size w4 := B3.out.held (((Held.refl _).alloc _).step h4)
  have k4 : Held w w4 := K3.out.step (((Held.refl _).alloc _).step h4)
  clear p0 p1 p2 q0 q1 q2 q3 r0 r1 r2 r3 l1 l2 l3 h4
  have l1 := b4.lt
  have l2 := lt_of_cell b4.2.1.1
  have l3 := lt_of_cell b4.1.1
  obtain ⟨⟨p0, p1, p2⟩, ⟨q0, q1, q2, q3⟩, ⟨r0, r1, r2, r3⟩⟩ := id b4
  have B4 := Lib.hid b4
  have K4 := Lib.hid k4
  clear b4 k4
  go_wp2_with fail
  refine (fits_any _ _ _ _ _ _ [⟨6, 8, 5, 1⟩] _ (ds_new1 _ _ rfl _ _ _ _) (by decide) (by decide)).mono ?_
  rintro e w5 ⟨rfl, h5⟩
  rw [e6]
  have b5 : Bx w.heap.size w5 := B4.out.held (((Held.refl _).alloc _).step h5)
  have k5 : Held w w5 := K4.out.step (((Held.refl _).alloc _).step h5)
  clear p0 p1 p2 q0 q1 q2 q3 r0 r1 r2 r3 l1 l2 l3 h5
  have l1 := b5.lt
  have l2 := lt_of_cell b5.2.1.1
  have l3 := lt_of_cell b5.1.1
  obtain ⟨⟨p0, p1, p2⟩, ⟨q0, q1, q2, q3⟩, ⟨r0, r1, r2, r3⟩⟩ := id b5
  have K5 := Lib.hid k5
  clear b5 k5
  go_wp2_with fail
  refine (fits_any _ _ _ _ _ _ [⟨6, 8, 5, 1⟩, ⟨6, 8, 5, 1⟩] _ (ds_new2 _ _ rfl _ _ _ _ _ _ _ _) (by decide) (by decide)).mono ?_
  rintro e w6 ⟨rfl, h6⟩
  rw [e7]
  go_wp2
  go_ret
  exact ⟨rfl, K5.out.step (((Held.refl _).alloc _).step h6)⟩
end Law39
end Go.Proofs.Ytmpbmckigejagaa
