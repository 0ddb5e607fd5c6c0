/-
  The laws of chapter 36: their check of fixed results returns true.
-/
import Derived.Test.YtgfbfmgdlbdlhaaPgA
import Derived.Test.YtgfbfmgdlbdlhaaPlP
set_option linter.unusedVariables false
set_option linter.unusedSimpArgs false
set_option maxRecDepth 100000
namespace Go.Proofs.Ytgfbfmgdlbdlhaa
open Go.RowKit Go.BigFrame Go.Sort
namespace Pg
theorem cells_two (w : World) (x y : ByteArray) (t : TypeId) : ∀ k (h : k < [x, y].length) j v, (stC [x, y][k])[j]? = some v → (w.alloc (.cells #[.string x, .string y] t)).cell? ⟨w.heap.size, 0 + k * 1 + j, none⟩ = some v := by
  intro k hk j v hv
  have hn := heap_alloc_new w (.cells #[.string x, .string y] t)
  rcases j with _ | j
  · simp only [stC, List.getElem?_cons_zero, Option.some.injEq] at hv
    subst hv
    simp only [World.cell?, hn]
    rcases k with _ | _ | k
    · rfl
    · rfl
    · simp at hk; omega
  · simp [stC] at hv
/-- What is handed back besides the pager: v. -/
def To (lim hand : Int) (n : Nat) (L : List Pg) (v : List Value) (w : World) (e : Ending) (w' : World) : Prop := ∃ A cap, e = .returned (.tuple (.agg #[.slice A n cap, .int .i64 lim, .int .i64 hand] :: v).toArray) ∧ n ≤ cap ∧ Own 37 3 pgC w.heap.size w' (.slice A n cap) L ∧ Held w w'
theorem touch_to (A : Option Addr) (n cap : Nat) (lim hand pg : Int) (L : List Pg) (w : World) (h : Sl 3 pgC w A n L) (hA : A = none → n = 0) (hn : (n : Int) ≤ 1000000) (hd : ∀ x ∈ L, (x.d.size : Int) ≤ 1000000)
    {L' : List Pg} {hand' st : Int} (hr : touch L lim hand pg = (L', hand', st)) :
    Calls Try.prog 21 #[.agg #[.slice A n cap, .int .i64 lim, .int .i64 hand], .int .i64 pg] w (To lim hand' n L' [.int .i64 st] w) := by
  have hl := touch_len L lim hand pg
  rw [hr, h.1] at hl
  refine (touch_any A n cap lim hand pg L w h hA hn hd).mono ?_
  rintro e w' ⟨A', cap', he, hc, ho, hh⟩
  rw [hr] at he hc ho
  simp only at hl he hc ho
  rw [hl] at he hc ho
  exact ⟨A', cap', he, hc, ho, hh⟩
theorem read_to (A : Option Addr) (n cap : Nat) (lim hand pg : Int) (L : List Pg) (w : World) (h : Sl 3 pgC w A n L) (hA : A = none → n = 0) (hn : (n : Int) ≤ 1000000) (hd : ∀ x ∈ L, (x.d.size : Int) ≤ 1000000)
    {L' : List Pg} {hand' st : Int} {s : ByteArray} (hr : touch L lim hand pg = (L', hand', st)) (hs : readS L lim hand pg = s) :
    Calls Try.prog 15 #[.agg #[.slice A n cap, .int .i64 lim, .int .i64 hand], .int .i64 pg] w (To lim hand' n L' [.string s, .bool (decide (¬ st = 0))] w) := by
  have hl := touch_len L lim hand pg
  rw [hr, h.1] at hl
  refine (read_any A n cap lim hand pg L w h hA hn hd).mono ?_
  rintro e w' ⟨A', cap', he, hc, ho, hh⟩
  rw [hr, hs] at he
  rw [hr] at hc ho
  simp only at hl he hc ho
  rw [hl] at he hc ho
  exact ⟨A', cap', he, hc, ho, hh⟩
set_option maxHeartbeats 8000000 in
theorem awake_any (w : World) : Calls Try.prog 9 #[] w fun e w' => e = .returned (.bool true) ∧ Held w w' := by
  obtain ⟨zz, hzz⟩ : ∃ zz, zip zero = zz := ⟨_, rfl⟩
  have hz1 := zero_size
  have hz3 := hzz ▸ zip_zero
  obtain ⟨hz4, hz5⟩ := hzz ▸ unz_zip zero zero_size
  have T1 := Lib.hid (touch_zz hz1 hzz hz3 hz4 hz5)
  have T2 := Lib.hid (touch_zz2 hz1 hzz hz3 hz4 hz5)
  have T3 := Lib.hid (read_zz hz1 hzz hz3 hz4 hz5)
  have T0 := Lib.hid (new_zz hz1 hzz hz3)
  have HP : Hid (∀ w, Calls Try.prog 22 #[.int .i64 0] w fun e w' => e = .returned (.string zero) ∧ Held w w') := fun w => (Plan.page_any 0 w (by decide)).mono fun e w' h => by
    obtain ⟨d, _, hd, he, hh⟩ := h
    rw [hd (by decide)] at he
    exact ⟨he, hh⟩
  obtain ⟨z, hz⟩ : ∃ z, z = zero := ⟨_, rfl⟩
  rw [← hz] at T0 T1 T2 T3 HP hz1
  have HZ1 := Lib.hid hz1
  have HZ3 := Lib.hid hz3
  clear hz hz1 hz3 hz4 hz5 hzz
  go_enter Try.func9, Try.ntmps9
  go_wp2_with fail
  refine (HP.out _).mono ?_
  rintro e w1 ⟨rfl, h1⟩
  have H1 := Lib.hid h1
  clear h1
  go_wp2_with fail
  refine (HP.out _).mono ?_
  rintro e w2 ⟨rfl, h2⟩
  have H2 := Lib.hid (H1.out.step h2)
  clear h2
  go_wp2_with fail
  have HN := Lib.hid (new_any (some ⟨w2.heap.size, 0, none⟩) 2 2 1 [z, z] (w2.alloc (.cells #[.string z, .string z] 9)) ⟨rfl, .inr ⟨_, 0, rfl, by simp, cells_two _ _ _ _⟩⟩ (by decide) (by intro x hx; simp at hx; rw [hx, HZ1.out]; decide))
  rw [T0.out] at HN
  refine HN.out.mono ?_
  rintro e w3 ⟨A3, cap3, rfl, hc3, ho3, h3⟩
  have M3 := Lib.hid ((Mem.of (H2.out.alloc _)).own h3 ho3)
  have hc3' : (2 : Nat) ≤ cap3 := hc3
  clear ho3 h3 HN hc3
  obtain ⟨g, x, rfl, hg1, hg2, hx, hsl⟩ := M3.out.slot 0 rfl pgC_len (by decide) (k := 1) (by simp)
  obtain rfl : (⟨2, zz, false⟩ : Pg) = x := by simpa using hx
  have x0 := (hsl 0 (by decide)).2 _ rfl
  have n3 : ¬ g = w3.heap.size := by omega
  have hsl3 := Own.reads pgC_len (M3.out.row 0 rfl)
  have HT := Lib.hid (fun w' (q : Held w3 w') => touch_to (some ⟨g, 0, none⟩) 2 cap3 1 0 1 _ w' (hsl3.1.held q) (by simp) (by decide) (by intro x hx; simp at hx; rcases hx with rfl | rfl <;> simp <;> first | (rw [HZ1.out]; omega) | (have := HZ3.out; omega)) T1.out)
  unfold grV
  clear hx hsl hsl3
  go_wp2_with fail
  refine (HT.out _ ((Held.refl w3).alloc _)).mono ?_
  rintro e w4 ⟨A4, cap4, rfl, hc4, ho4, h4⟩
  have M4 := Lib.hid ((M3.out.skip _).own h4 ho4)
  clear ho4 h4 HT
  obtain ⟨g4, x, rfl, hg41, hg42, hx, hsl⟩ := M4.out.slot 1 rfl pgC_len (by decide) (k := 0) (by simp)
  obtain rfl : (⟨2, zz, false⟩ : Pg) = x := by simpa using hx
  have y0 := (hsl 0 (by decide)).2 _ rfl
  have hsl4 := Own.reads pgC_len (M4.out.row 1 rfl)
  have HRD := Lib.hid (fun w' (q : Held w4 w') => read_to (some ⟨g4, 0, none⟩) 2 cap4 1 1 0 _ w' (hsl4.1.held q) (by simp) (by decide) (by intro x hx; simp at hx; rcases hx with rfl | rfl <;> simp <;> first | (rw [HZ1.out]; omega) | (have := HZ3.out; omega)) T2.out T3.out)
  clear hx hsl hsl4
  go_wp2_with fail
  refine (HRD.out _ ((Held.refl w4).alloc _)).mono ?_
  rintro e w5 ⟨A5, cap5, rfl, hc5, ho5, h5⟩
  have M5 := Lib.hid (((M4.out.alloc #[.slice (some ⟨g4, 0, none⟩) 2 cap4, .int .i64 1, .int .i64 1] 32).own h5 ho5).alloc #[.slice A5 2 cap5, .int .i64 1, .int .i64 0] 32)
  have hsl5 := (Own.reads pgC_len (M5.out.row 3 rfl)).1
  obtain ⟨⟨a0, a1, a2⟩, ⟨_, _, _⟩, alt⟩ := M5.out.box3 2 rfl
  obtain ⟨⟨b0, b1, b2⟩, ⟨_, _, _⟩, blt⟩ := M5.out.box3 4 rfl
  obtain ⟨g4', x, hgg, _, _, hx, hsl⟩ := M5.out.slot 1 rfl pgC_len (by decide) (k := 0) (by simp)
  obtain rfl : (⟨2, zz, false⟩ : Pg) = x := by simpa using hx
  injection hgg with hgg
  injection hgg with hgg
  subst hgg
  have y0 := (hsl 0 (by decide)).2 _ rfl
  have hd5 : decide (¬ (2 : Int) = 0) = true := by decide
  rw [hd5]
  have hq2 : ((2 : Int) == 2) = true := by decide
  clear ho5 h5 HRD hx hsl M4 M3 hd5
  go_wp2_with fail
  refine (HP.out _).mono ?_
  rintro e w7 ⟨rfl, h7⟩
  have M7 := Lib.hid (M5.out.keep h7)
  clear a0 a1 a2 b0 b1 b2 alt blt y0 h7 hsl5
  have hsl7 := (Own.reads pgC_len (M7.out.row 3 rfl)).1
  obtain ⟨⟨b0, b1, b2⟩, ⟨_, _, _⟩, blt⟩ := M7.out.box3 4 rfl
  have cA := Lib.hid (count_any A5 2 cap5 1 0 1 _ w7 hsl7 (by decide))
  unfold grV at cA
  clear hsl7
  go_wp2_with fail
  refine cA.out.mono ?_
  rintro e w8 ⟨rfl, h8⟩
  have M8 := Lib.hid (M7.out.keep h8)
  clear h8
  go_wp2
  go_ret
  exact ⟨by simp [count], M8.out.held⟩
end Pg
end Go.Proofs.Ytgfbfmgdlbdlhaa
