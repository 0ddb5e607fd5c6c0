/-
  The law PagerForms, walked.
-/
import Derived.Test.YtgfbfmgdlbdlhaaPgL
import Derived.Test.YtgfbfmgdlbdlhaaLawPg
set_option linter.unusedVariables false
set_option linter.unusedSimpArgs false
set_option maxRecDepth 100000
namespace Go.Proofs.Ytgfbfmgdlbdlhaa
open Go.RowKit Go.BigFrame Go.Sort
namespace Pg
theorem forms_new {d : ByteArray} (h : d.size = 128) : newP [d, d] 1 = ([⟨1, d, false⟩, putOut d], 1, true) := by
  simp [newP, newOk, newBad, newL, newAt, h]
theorem forms_valid {d : ByteArray} (h : d.size = 128) : valid [⟨1, d, false⟩, putOut d] 1 0 = true := by
  obtain ⟨p1, p2, p3, p4, p5⟩ := putOut_ok h
  refine valid_mk (by simp) (by simp) (by simp) ?_ (by simp [count, p3])
  intro i hi
  rcases i with _ | _ | i
  · simp [okP, h]
  · exact p1
  · simp at hi; omega
theorem forms_read {d : ByteArray} (h : d.size = 128) : readS [⟨1, d, false⟩, putOut d] 1 0 1 = d ∧ ¬ (touch [⟨1, d, false⟩, putOut d] 1 0 1).2.2 = 0 := by
  obtain ⟨p1, p2, p3, p4, p5⟩ := putOut_ok h
  obtain ⟨t1, t2, ⟨t3, t4⟩, t5, t6⟩ := touch_law (forms_valid h) (p := 1) (by simp)
  have h2 : ¬ (touch [⟨1, d, false⟩, putOut d] 1 0 1).2.2 = 0 := by
    rw [show ((1 : Nat) : Int) = 1 from rfl] at t5; rw [t5]; exact t6
  refine ⟨?_, h2⟩
  unfold readS
  rw [if_neg h2]
  have e := congrArg (fun l => l[1]?) t2
  simp only [conts, List.getElem?_map] at e
  rw [List.getElem?_eq_getElem t3] at e
  simp only [Option.map_some, List.getElem?_cons_succ, List.getElem?_cons_zero] at e
  injection e with e
  rw [p2] at e
  have t4' : (touch [⟨1, d, false⟩, putOut d] 1 0 ((1 : Nat) : Int)).1[1].st = 1 := t4
  unfold content at e
  rw [if_neg (by rw [t4']; decide)] at e
  refine Eq.trans ?_ e
  show ((touch [⟨1, d, false⟩, putOut d] 1 0 ((1 : Nat) : Int)).1.getD 1 dfl).d = _
  rw [List.getD_eq_getElem?_getD, List.getElem?_eq_getElem t3]; rfl
theorem cells_twoB (w : World) (x y : ByteArray) (t : TypeId) (b : Nat) (hb : w.heap.size = b) : Sl 1 stC (w.alloc (.cells #[.string x, .string y] t)) (some ⟨b, 0, none⟩) 2 [x, y] := by
  subst hb
  exact ⟨rfl, .inr ⟨_, 0, rfl, by simp, cells_two _ _ _ _⟩⟩
set_option maxHeartbeats 8000000 in
theorem forms_any (s : ByteArray) (n : Int) (w0 w : World) (h0 : Held w0 w) (hs : (s.size : Int) ≤ 9223372036854775807) :
    Calls Try.prog 5 #[.string s, .int .i64 n] w fun e w' => e = .returned (.bool true) ∧ Held w0 w' := by
  have HN := Lib.hid (fun (d : ByteArray) (hd : d.size = 128) (b : Nat) (w' : World) (h : Sl 1 stC w' (some ⟨b, 0, none⟩) 2 [d, d]) => by
    have := new_any (some ⟨b, 0, none⟩) 2 2 1 [d, d] w' h (by omega) (by intro x hx; simp at hx; rw [hx, hd]; omega)
    rw [forms_new hd] at this; exact this)
  have HNI := Lib.hid (fun w' => awake_any w')
  by_cases h : s.size = 128
  · have hb : ((s.size : Int) != 128) = false := by simp [h]
    have HD := Lib.hid h
    have H0 := Lib.hid h0
    clear h h0
    go_enter Try.func5, Try.ntmps5
    go_wp2_with fail
    refine (HN.out s HD.out _ _ (cells_twoB _ _ _ _ _ rfl)).mono ?_
    rintro e w1 ⟨A1, cap1, rfl, hc1, ho1, h1⟩
    have hR := forms_read HD.out
    have hp5 := (putOut_ok HD.out).2.2.2.2
    have hqs : ((putOut s).d.size : Int) ≤ 1000000 := by exact hp5.elim (fun h => by have := h.2; omega) (fun h => by rw [h.2, HD.out]; omega)
    obtain ⟨q, hq⟩ : ∃ q, putOut s = q := ⟨_, rfl⟩
    rw [hq] at ho1 hR hp5 hqs
    obtain ⟨T, hT⟩ : ∃ T, touch [⟨1, s, false⟩, q] 1 0 1 = T := ⟨_, rfl⟩
    obtain ⟨L', hand', st⟩ := T
    have hst : ¬ st = 0 := by have := hR.2; rw [hT] at this; exact this
    have HST : Hid (decide (¬ st = 0) = true) := decide_eq_true hst
    clear hst
    have M1 := Lib.hid (((Mem.of (H0.out.alloc _)).own h1 ho1).alloc #[.slice A1 2 cap1, .int .i64 1, .int .i64 0] 32)
    obtain ⟨g, x, rfl, hg1, hg2, hx, hsl⟩ := M1.out.slot 0 rfl pgC_len (by decide) (k := 1) (by simp)
    obtain rfl : q = x := by simpa using hx
    have x0 := (hsl 0 (by decide)).2 _ rfl
    have x1 := (hsl 1 (by decide)).2 _ rfl
    have x2 := (hsl 2 (by decide)).2 _ rfl
    have hsl1 := (Own.reads pgC_len (M1.out.row 0 rfl)).1
    have hg3 := (World.ownsRow.lt ho1 g rfl).2
    have n3 : ¬ g = w1.heap.size := by omega
    have HRD := Lib.hid (fun w' (k : Held (w1.alloc (.cells #[.slice (some ⟨g, 0, none⟩) 2 cap1, .int .i64 1, .int .i64 0] 32)) w') => read_to (some ⟨g, 0, none⟩) 2 cap1 1 0 1 [⟨1, s, false⟩, q] w' (hsl1.held k) (by simp) (by decide) (by intro x hx; simp at hx; exact hx.elim (fun h => by rw [h]; simp only; rw [HD.out]; omega) (fun h => by rw [h]; exact hqs)) hT hR.1)
    rw [HST.out] at HRD
    clear ho1 h1 hx hsl hsl1 hR hq hT hqs hg2
    unfold grV
    simp only at hc1 ⊢
    rcases hp5 with ⟨hq1, hq2⟩ | ⟨hq1, hq2⟩
    · rw [hq1] at x0
      have hq2' : ¬ (64 : Int) < q.d.size := by omega
      clear hq1 hq2
      go_wp2_with fail
      refine (HRD.out _ ((Held.refl _).alloc _)).mono ?_
      rintro e w2 ⟨A2, cap2, rfl, hc2, ho2, h2⟩
      have M2 := Lib.hid ((M1.out.skip _).keep h2)
      clear ho2 h2 HRD
      go_wp2_with fail
      refine (HNI.out _).mono ?_
      rintro e w3 ⟨rfl, h3⟩
      have M3 := Lib.hid ((M2.out.skip _).keep h3)
      clear h3
      go_wp2
      go_ret
      exact ⟨rfl, M3.out.held⟩
    · rw [hq1] at x0
      have hq3 : Hid (q.d = s) := hq2
      have hq4 : (q.d.toList == s.toList) = true := by rw [hq2]; simp
      have hq5 : (q.d.toList != s.toList) = false := by rw [hq2]; simp
      clear hq1 hq2
      go_wp2_with fail
      refine (HRD.out _ ((Held.refl _).alloc _)).mono ?_
      rintro e w2 ⟨A2, cap2, rfl, hc2, ho2, h2⟩
      have M2 := Lib.hid ((M1.out.skip _).keep h2)
      clear ho2 h2 HRD
      go_wp2_with fail
      refine (HNI.out _).mono ?_
      rintro e w3 ⟨rfl, h3⟩
      have M3 := Lib.hid ((M2.out.skip _).keep h3)
      clear h3
      go_wp2
      go_ret
      exact ⟨rfl, M3.out.held⟩
  · have hb : ((s.size : Int) != 128) = true := by simp; omega
    have HDI := Lib.hid (fun w' => Plan.disperse_any n w')
    have H00 := Lib.hid h0
    clear h h0
    go_enter Try.func5, Try.ntmps5
    go_wp2_with fail
    refine (HDI.out _).mono ?_
    rintro e w9 ⟨d, hd, rfl, h9⟩
    have HD := Lib.hid hd
    have H0 := Lib.hid (H00.out.step h9)
    clear hd h9
    go_wp2_with fail
    refine (HN.out d HD.out _ _ (cells_twoB _ _ _ _ _ rfl)).mono ?_
    rintro e w1 ⟨A1, cap1, rfl, hc1, ho1, h1⟩
    have hR := forms_read HD.out
    have hp5 := (putOut_ok HD.out).2.2.2.2
    have hqs : ((putOut d).d.size : Int) ≤ 1000000 := by exact hp5.elim (fun h => by have := h.2; omega) (fun h => by rw [h.2, HD.out]; omega)
    obtain ⟨q, hq⟩ : ∃ q, putOut d = q := ⟨_, rfl⟩
    rw [hq] at ho1 hR hp5 hqs
    obtain ⟨T, hT⟩ : ∃ T, touch [⟨1, d, false⟩, q] 1 0 1 = T := ⟨_, rfl⟩
    obtain ⟨L', hand', st⟩ := T
    have hst : ¬ st = 0 := by have := hR.2; rw [hT] at this; exact this
    have HST : Hid (decide (¬ st = 0) = true) := decide_eq_true hst
    clear hst
    have M1 := Lib.hid (((Mem.of (H0.out.alloc _)).own h1 ho1).alloc #[.slice A1 2 cap1, .int .i64 1, .int .i64 0] 32)
    obtain ⟨g, x, rfl, hg1, hg2, hx, hsl⟩ := M1.out.slot 0 rfl pgC_len (by decide) (k := 1) (by simp)
    obtain rfl : q = x := by simpa using hx
    have x0 := (hsl 0 (by decide)).2 _ rfl
    have x1 := (hsl 1 (by decide)).2 _ rfl
    have x2 := (hsl 2 (by decide)).2 _ rfl
    have hsl1 := (Own.reads pgC_len (M1.out.row 0 rfl)).1
    have hg3 := (World.ownsRow.lt ho1 g rfl).2
    have n3 : ¬ g = w1.heap.size := by omega
    have HRD := Lib.hid (fun w' (k : Held (w1.alloc (.cells #[.slice (some ⟨g, 0, none⟩) 2 cap1, .int .i64 1, .int .i64 0] 32)) w') => read_to (some ⟨g, 0, none⟩) 2 cap1 1 0 1 [⟨1, d, false⟩, q] w' (hsl1.held k) (by simp) (by decide) (by intro x hx; simp at hx; exact hx.elim (fun h => by rw [h]; simp only; rw [HD.out]; omega) (fun h => by rw [h]; exact hqs)) hT hR.1)
    rw [HST.out] at HRD
    clear ho1 h1 hx hsl hsl1 hR hq hT hqs hg2
    unfold grV
    simp only at hc1 ⊢
    rcases hp5 with ⟨hq1, hq2⟩ | ⟨hq1, hq2⟩
    · rw [hq1] at x0
      have hq2' : ¬ (64 : Int) < q.d.size := by omega
      clear hq1 hq2
      go_wp2_with fail
      refine (HRD.out _ ((Held.refl _).alloc _)).mono ?_
      rintro e w2 ⟨A2, cap2, rfl, hc2, ho2, h2⟩
      have M2 := Lib.hid ((M1.out.skip _).keep h2)
      clear ho2 h2 HRD
      go_wp2_with fail
      refine (HNI.out _).mono ?_
      rintro e w3 ⟨rfl, h3⟩
      have M3 := Lib.hid ((M2.out.skip _).keep h3)
      clear h3
      go_wp2
      go_ret
      exact ⟨rfl, M3.out.held⟩
    · rw [hq1] at x0
      have hq3 : Hid (q.d = d) := hq2
      have hq4 : (q.d.toList == d.toList) = true := by rw [hq2]; simp
      have hq5 : (q.d.toList != d.toList) = false := by rw [hq2]; simp
      clear hq1 hq2
      go_wp2_with fail
      refine (HRD.out _ ((Held.refl _).alloc _)).mono ?_
      rintro e w2 ⟨A2, cap2, rfl, hc2, ho2, h2⟩
      have M2 := Lib.hid ((M1.out.skip _).keep h2)
      clear ho2 h2 HRD
      go_wp2_with fail
      refine (HNI.out _).mono ?_
      rintro e w3 ⟨rfl, h3⟩
      have M3 := Lib.hid ((M2.out.skip _).keep h3)
      clear h3
      go_wp2
      go_ret
      exact ⟨rfl, M3.out.held⟩
theorem forms (s : ByteArray) (n : Int) (hs : s.size ≤ maxLen) (hn : (Lit.int .i64 n).wf = true) (W : World) :
    Calls Try.prog 5 #[.string s, .int .i64 n] W fun e w' => e = .returned (.bool true) ∧ Below W.heap.size W w' := by
  have hs' : (s.size : Int) ≤ 9223372036854775807 := by unfold maxLen at hs; omega
  exact forms_any s n W W (Held.refl W) hs'
end Pg
end Go.Proofs.Ytgfbfmgdlbdlhaa
