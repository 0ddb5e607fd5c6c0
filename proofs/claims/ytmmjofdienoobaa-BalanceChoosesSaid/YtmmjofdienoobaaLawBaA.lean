/-
  The law package of chapter 40: its check of fixed results returns true.
-/
import Derived.Test.YtmmjofdienoobaaLawBa
set_option linter.unusedVariables false
set_option linter.unusedSimpArgs false
set_option maxRecDepth 100000
namespace Go.Proofs.Ytmmjofdienoobaa
open Go.RowKit
/-- A slice that was just laid out of its elements. -/
theorem sl_lits {α : Type} {s : Nat} {f : α → List Value} (hf : ∀ x, (f x).length = s) {w : World} {b n : Nat} (hb : w.heap.size = b) (cs : Array Value) (t : TypeId) (L : List α) (hn : L.length = n) (hcs : cs.toList = L.flatMap f) : Sl s f (w.alloc (.cells cs t)) (some ⟨b, 0, none⟩) n L := by
  subst hb hn
  refine ⟨rfl, .inr ⟨_, 0, rfl, by simp, fun k hk j v hv => ?_⟩⟩
  have hj : j < s := by
    have := (List.getElem?_eq_some_iff.1 hv).1
    rw [hf] at this; exact this
  have h1 := flat_at hf L k hk j hj
  rw [hv, ← hcs] at h1
  have hn := heap_alloc_new w (.cells cs t)
  simp only [World.cell?, hn, Nat.zero_add]
  simpa using h1
namespace Ba
open Ad Adm
def aH : List Hc := [⟨10, 100, true⟩, ⟨10, 100, true⟩]
def aL : List Dem := [⟨4, 4, 0, 0⟩, ⟨4, 4, 0, 0⟩, ⟨4, 4, 0, 0⟩]
theorem a1 : assign aH aL = some [0, 0, 1] := by kernel_rfl
theorem a2 : spread aH aL [0, 0, 1] = (400, true) := by kernel_rfl
theorem a3 : improve aH aL [0, 0, 1] = (mv0, false) := by kernel_rfl
theorem a4 : evacuate aH (aL.take 1) [0] 0 = some ([⟨0, 0, 1⟩], [1]) := by kernel_rfl
theorem a5 : load ⟨10, 100, true⟩ (aL.take 1) = 400 := by kernel_rfl
set_option maxHeartbeats 2000000 in
theorem awake_any (w : World) : Calls Try.prog 9 #[] w fun e w' => e = .returned (.bool true) ∧ Held w w' := by
  have M1 := Lib.hid ((Mem.start w).alloc #[.int .i64 10, .int .i64 100, .bool true] 47)
  have H1 := Lib.hid (sl_lits hcC_len (b := w.heap.size + 1) (w := w.alloc (.cells #[.int .i64 10, .int .i64 100, .bool true] 47)) (by simp) #[.int .i64 10, .int .i64 100, .bool true, .int .i64 10, .int .i64 100, .bool true] 47 aH (n := 2) rfl rfl)
  have M2 := Lib.hid ((M1.out.skip (.cells #[.int .i64 10, .int .i64 100, .bool true, .int .i64 10, .int .i64 100, .bool true] 47)).skip (.cells #[.int .i64 4, .int .i64 4, .int .i64 0, .int .i64 0] 43))
  have L1 := Lib.hid (fun w' (hb : w'.heap.size = w.heap.size + 1 + 1 + 1) => sl_lits demC_len (b := w.heap.size + 1 + 1 + 1) (w := w') hb #[.int .i64 4, .int .i64 4, .int .i64 0, .int .i64 0, .int .i64 4, .int .i64 4, .int .i64 0, .int .i64 0, .int .i64 4, .int .i64 4, .int .i64 0, .int .i64 0] 43 aL (n := 3) rfl rfl)
  have I3 := Lib.hid (fun w' => sl_lits inC_len (b := w'.heap.size) (w := w') rfl #[.int .i64 0, .int .i64 0, .int .i64 1] 3 [0, 0, 1] (n := 3) rfl rfl)
  go_enter Try.func9, Try.ntmps9
  go_wp2_with fail
  have M3 := Lib.hid (M2.out.skip (.cells #[.int .i64 4, .int .i64 4, .int .i64 0, .int .i64 0, .int .i64 4, .int .i64 4, .int .i64 0, .int .i64 0, .int .i64 4, .int .i64 4, .int .i64 0, .int .i64 0] 43))
  have H4 := Lib.hid (H1.out.held (((Held.refl _).alloc (.cells #[.int .i64 4, .int .i64 4, .int .i64 0, .int .i64 0] 43)).alloc (.cells #[.int .i64 4, .int .i64 4, .int .i64 0, .int .i64 0, .int .i64 4, .int .i64 4, .int .i64 0, .int .i64 0, .int .i64 4, .int .i64 4, .int .i64 0, .int .i64 0] 43)))
  have L4 := Lib.hid (L1.out ((((w.alloc (.cells #[.int .i64 10, .int .i64 100, .bool true] 47)).alloc (.cells #[.int .i64 10, .int .i64 100, .bool true, .int .i64 10, .int .i64 100, .bool true] 47)).alloc (.cells #[.int .i64 4, .int .i64 4, .int .i64 0, .int .i64 0] 43))) (by simp))
  refine (assign_any _ 2 2 _ 3 3 aH aL _ H4.out L4.out).mono ?_
  rw [a1]
  rintro e w5 ⟨A5, n5, c5, rfl, S5, _, _, k5⟩
  obtain rfl : n5 = 3 := S5.1.symm
  have HS5 := Lib.hid S5
  have M5 := Lib.hid (M3.out.keep k5)
  have H5 := Lib.hid (H4.out.held k5)
  have L5 := Lib.hid (L4.out.held k5)
  clear H1 L1 H4 L4 M1 M2 M3 k5 S5
  go_wp2_with fail
  refine (spread_any _ 2 2 _ 3 3 _ 3 3 aH aL [0, 0, 1] _ (H5.out.held ((Held.refl w5).alloc _)) (L5.out.held ((Held.refl w5).alloc _)) (I3.out w5)).mono ?_
  rw [a2]
  rintro e w6 ⟨rfl, k6⟩
  have K6 := Lib.hid (((Held.refl w5).alloc _).step k6)
  clear k6
  go_wp2_with fail
  refine (improve_any _ 2 2 _ 3 3 _ 3 3 aH aL [0, 0, 1] _ (H5.out.held (K6.out.alloc _)) (L5.out.held (K6.out.alloc _)) (I3.out w6) (fun h => by cases h) (by omega) (by omega)).mono ?_
  rw [a3]
  rintro e w7 ⟨rfl, k7⟩
  have K7 := Lib.hid ((K6.out.alloc _).step k7)
  have M7 := Lib.hid ((M5.out.keep K7.out).alloc #[.int .i64 0, .int .i64 0, .int .i64 0] 37)
  have K7' := Lib.hid (K7.out.alloc (.cells #[.int .i64 0, .int .i64 0, .int .i64 0] 37))
  clear k7
  go_wp2_with fail
  have Z1 := Lib.hid (sl_lits inC_len (b := w7.heap.size + 1) (w := w7.alloc (.cells #[.int .i64 0, .int .i64 0, .int .i64 0] 37)) (by simp) #[.int .i64 0] 3 [0] (n := 1) rfl rfl)
  refine (evac_any _ 2 2 _ 1 3 _ 1 1 0 aH (aL.take 1) [0] _ (H5.out.held (K7'.out.alloc _)) ((L5.out.take (k := 1) (by omega)).held (K7'.out.alloc _)) Z1.out (fun h => by cases h) (fun h => by cases h)).mono ?_
  rw [a4]
  rintro e w8 ⟨A8, n8, c8, B8, m8, d8, rfl, _, T8, k8⟩
  obtain rfl : m8 = 1 := T8.1.symm
  have HT8 := Lib.hid T8
  have M8 := Lib.hid ((M7.out.skip _).keep k8)
  have K8 := Lib.hid ((K7'.out.alloc _).step k8)
  clear k8 T8
  obtain ⟨⟨z0, z1, z2⟩, _, zlt⟩ := M8.out.box3 0 rfl
  obtain ⟨⟨y0, y1, y2⟩, _, ylt⟩ := M8.out.box3 1 rfl
  have q8 := run_eql_mv (x := mv0) (y := mv0) (q := true) (by simp)
  unfold mv0 at q8
  simp only at q8
  have HLD := Lib.hid (fun w' (q : Held w5 w') => load_any 10 100 true _ 1 3 (aL.take 1) w' ((L5.out.take (k := 1) (by omega)).held q))
  rw [a5] at HLD
  have HC := Lib.hid (fun w' (q : Held w8 w') => And.intro (And.intro (q.cell z0) (And.intro (q.cell z1) (q.cell z2))) (And.intro (q.cell y0) (And.intro (q.cell y1) (q.cell y2))))
  go_wp2
  go_region_held3 (fun w' => (w'.cell? ⟨w.heap.size, 0, none⟩ = some (.int .i64 10) ∧ w'.cell? ⟨w.heap.size, 1, none⟩ = some (.int .i64 100) ∧ w'.cell? ⟨w.heap.size, 2, none⟩ = some (.bool true)) ∧ (w'.cell? ⟨w7.heap.size, 0, none⟩ = some (.int .i64 0) ∧ w'.cell? ⟨w7.heap.size, 1, none⟩ = some (.int .i64 0) ∧ w'.cell? ⟨w7.heap.size, 2, none⟩ = some (.int .i64 0)))
    (first | exact HC.out _ (Held.refl _).drew | exact HC.out _ ((Held.refl _).drew.alloc _) | exact HC.out _ (by assumption) | exact HC.out _ (Held.alloc (by assumption) _))
    (first | (go_at_call 15; refine (sameI_any B8 1 d8 _ 1 1 [1] _ (HT8.out.held (k9.alloc _)) (sl_lits inC_len (b := w9.heap.size) (w := w9) rfl #[.int .i64 1] 3 [1] (n := 1) rfl rfl) (by omega)).mono ?_; rintro e w10 ⟨rfl, h10⟩; have k10 : Held w8 w10 := (k9.alloc _).step h10) | (go_at_call 15; refine (sameI_any A5 3 c5 _ 3 3 [0, 0, 1] _ (HS5.out.held (K8.out.step ((Held.refl _).drew.alloc _))) (I3.out w8.drew) (by omega)).mono ?_; rintro e w9 ⟨rfl, h9⟩; have k9 : Held w8 w9 := ((Held.refl _).drew.alloc _).step h9) | (go_at_call 25; refine (HLD.out _ (K8.out.step k10)).mono ?_; rintro e w11 ⟨rfl, h11⟩; have k11 : Held w8 w11 := k10.step h11))
  go_wp2
  go_ret
  exact ⟨rfl, M8.out.held.step k11⟩
end Ba
end Go.Proofs.Ytmmjofdienoobaa
