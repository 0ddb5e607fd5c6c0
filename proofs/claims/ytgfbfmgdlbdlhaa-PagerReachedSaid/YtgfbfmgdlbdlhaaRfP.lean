/-
  Contracts: out, content, formed of the reference of chapter 36.
-/
import Derived.Test.YtgfbfmgdlbdlhaaRfW
set_option linter.unusedVariables false
set_option linter.unusedSimpArgs false
set_option maxRecDepth 100000
namespace Go.Proofs.Ytgfbfmgdlbdlhaa
open Go.RowKit Go.BigFrame Go.Sort
namespace Pg
set_option maxHeartbeats 2000000 in
theorem out_ref (d : ByteArray) (w : World) (hd : d.size ≤ 1000000) : Calls Try.prog 43 #[.string d] w (RetP (putOut d) w) := by
  have HC := Lib.hid (fun w => Cp.compress_ref d w (by omega))
  have H1 := Lib.hid (@putOut_small d)
  have H2 := Lib.hid (@putOut_big d)
  have M0 := Lib.hid ((Mem.start w).alloc #[.int .i64 0, .string ⟨#[]⟩, .bool false] 37)
  obtain ⟨z, hz⟩ : ∃ z, zip d = z := ⟨_, rfl⟩
  rw [hz] at H1 H2
  have hz' : (⟨(Cp.compress d.data.toList).toArray⟩ : ByteArray) = z := hz
  rw [hz'] at HC
  clear hz hz'
  by_cases h64 : z.size ≤ 64
  · have hi : (z.size : Int) ≤ 64 := by omega
    rw [H1.out h64]
    clear H1 H2
    go_enter Try.func43, Try.ntmps43
    go_wp2_with (go_at_call 51; refine (HC.out _).mono ?_; rintro e w1 ⟨rfl, h1⟩; have M1 := Lib.hid (M0.out.keep h1); obtain ⟨⟨c0, c1, c2⟩, ⟨f0, f1, f2⟩, hlt⟩ := M1.out.box3 0 rfl; clear h1)
    have M2 := Lib.hid (((M1.out.put 0 rfl 0 (.int .i64 2)).put 0 rfl 1 (.string z)).put 0 rfl 2 (.bool false))
    exact bodyPost_ret (Bx.res_c Try.results43 rfl (PB.load (x := ⟨2, z, false⟩) (M2.out.blk 0 rfl))) rfl ⟨rfl, M2.out.held⟩
  · have hi : ¬ (z.size : Int) ≤ 64 := by omega
    rw [H2.out h64]
    clear H1 H2
    go_enter Try.func43, Try.ntmps43
    go_wp2_with (go_at_call 51; refine (HC.out _).mono ?_; rintro e w1 ⟨rfl, h1⟩; have M1 := Lib.hid (M0.out.keep h1); obtain ⟨⟨c0, c1, c2⟩, ⟨f0, f1, f2⟩, hlt⟩ := M1.out.box3 0 rfl; clear h1)
    have M2 := Lib.hid (((M1.out.put 0 rfl 0 (.int .i64 3)).put 0 rfl 1 (.string d)).put 0 rfl 2 (.bool false))
    exact bodyPost_ret (Bx.res_c Try.results43 rfl (PB.load (x := ⟨3, d, false⟩) (M2.out.blk 0 rfl))) rfl ⟨rfl, M2.out.held⟩
set_option maxHeartbeats 2000000 in
theorem content_ref (x : Pg) (w : World) (hd : x.d.size ≤ 1000000) : Calls Try.prog 44 #[pgV x] w fun e w' => e = .returned (.string (content x)) ∧ Held w w' := by
  have HC := Lib.hid (fun w => Cp.dec_ref x.d 128 w (by omega) (by decide))
  obtain ⟨st, d, u⟩ := x
  by_cases h2 : st = 2
  · subst h2
    show Calls Try.prog 44 #[.agg #[.int .i64 2, .string d, .bool u]] w _
    go_enter Try.func44, Try.ntmps44
    go_wp2_with (go_at_call 52; refine (HC.out _).mono ?_; rintro e w1 ⟨rfl, h1⟩)
    go_ret
    exact ⟨rfl, ((Held.refl w).alloc _).step h1⟩
  · have hc : content ⟨st, d, u⟩ = d := if_neg h2
    have HX := Lib.hid hc
    have h2' : (st != 2) = true := by simp [h2]
    clear h2 hc
    show Calls Try.prog 44 #[.agg #[.int .i64 st, .string d, .bool u]] w _
    go_enter Try.func44, Try.ntmps44
    go_wp2
    go_ret
    exact ⟨by rw [HX.out]; rfl, (Held.refl w).alloc _⟩
theorem pg_ext {x y : Pg} : x = y ↔ x.st = y.st ∧ x.d = y.d ∧ x.u = y.u := by
  cases x; cases y; simp
theorem toList_inj {a b : ByteArray} : a.toList = b.toList ↔ a = b := by
  constructor
  · intro h
    rw [ByteArray.toList_eq, ByteArray.toList_eq] at h
    exact ba_ext h
  · rintro rfl; rfl
theorem run_equalIn_paged (d : Nat) (x y : Pg) (w : World) : (Op.equalIn (d + 2) 37 (.agg #[.int .i64 x.st, .string x.d, .bool x.u]) (.agg #[.int .i64 y.st, .string y.d, .bool y.u])).run Try.prog w = .ok (@decide (x = y) (Classical.propDecidable _)) w := by
  have hs : Program.stoodInHeld Try.prog 37 = false := by kernel_rfl
  unfold Op.equalIn
  simp [run_underlying Try.underlying37, hs, go_sem, pg_ext, toList_inj]
  by_cases h1 : x.st = y.st <;> by_cases h2 : x.d = y.d <;> by_cases h3 : x.u = y.u <;> simp [h1, h2, h3]
theorem run_eql_paged {x y : Pg} {q : Bool} (h : q = true ↔ x = y) (w : World) : (binOp .eql 37 (.agg #[.int .i64 x.st, .string x.d, .bool x.u]) (.agg #[.int .i64 y.st, .string y.d, .bool y.u])).run Try.prog w = .ok (.bool q) w := by
  simp only [binOp]
  have hq : @decide (x = y) (Classical.propDecidable _) = q := by
    rw [Bool.eq_iff_iff, h]; simp
  simp [Op.equal, Op.maxDepth, run_equalIn_paged 9998, hq]
theorem run_neq_paged {x y : Pg} {q : Bool} (h : q = true ↔ x = y) (w : World) : (binOp .neq 37 (.agg #[.int .i64 x.st, .string x.d, .bool x.u]) (.agg #[.int .i64 y.st, .string y.d, .bool y.u])).run Try.prog w = .ok (.bool (!q)) w := by
  simp only [binOp]
  have hq : @decide (x = y) (Classical.propDecidable _) = q := by
    rw [Bool.eq_iff_iff, h]; simp
  simp [Op.equal, Op.maxDepth, run_equalIn_paged 9998, hq]
/-- The form of a page, by what it holds. -/
theorem okP_put {x : Pg} (h23 : x.st = 2 ∨ x.st = 3) (hs : (content x).size = 128) : okP x = true ↔ putOut (content x) = x := by
  obtain ⟨st, d, u⟩ := x
  obtain ⟨p1, p2, p3, p4, p5⟩ := putOut_ok hs
  constructor
  · intro h
    rcases h23 with h2 | h3
    · simp only at h2
      subst h2
      simp only [okP] at h
      rw [if_neg (by decide), if_pos (by decide)] at h
      unfold okZ at h
      split at h
      · cases h
      · rename_i hn
        simp only [not_or] at hn
        simp only [Bool.and_eq_true, decide_eq_true_eq] at h
        have hu : u = false := by simpa using hn.1
        subst hu
        show putOut (unz d) = _
        unfold putOut
        rw [h.2.2, if_pos (by omega)]
    · simp only at h3
      subst h3
      simp only [okP] at h
      rw [if_neg (by decide), if_neg (by decide), if_pos (by decide)] at h
      unfold okS at h
      simp only [Bool.and_eq_true, decide_eq_true_eq, Bool.not_eq_true'] at h
      rw [h.1]
      show putOut d = _
      unfold putOut
      rw [if_neg (by omega)]
  · intro h
    rw [← h]; exact p1
theorem okP_no {x : Pg} (h1 : ¬ x.st = 1) (h : ¬ (x.st = 2 ∨ x.st = 3)) : okP x = false := by
  unfold okP
  rw [if_neg h1, if_neg (fun q => h (.inl q)), if_neg (fun q => h (.inr q))]
theorem okP_sz {x : Pg} (h : ¬ (content x).size = 128) : okP x = false := by
  cases ho : okP x
  · rfl
  · exact absurd (okP_size ho) h
set_option maxHeartbeats 8000000 in
theorem formed_ref (x : Pg) (w : World) (hd : (x.d.size : Int) ≤ 1000000) : Calls Try.prog 45 #[pgV x] w fun e w' => e = .returned (.bool (okP x)) ∧ Held w w' := by
  have HCT := Lib.hid (fun w => content_ref x w (by omega))
  have hput := Lib.hid (@okP_put x)
  have hno := Lib.hid (@okP_no x)
  have hsz := Lib.hid (@okP_sz x)
  obtain ⟨r, hr⟩ : ∃ r, okP x = r := ⟨_, rfl⟩
  have HR1 : Hid (x.st = 1 → r = decide (x.d.size = 128)) := fun h => by rw [← hr]; unfold okP; rw [if_pos h]
  rw [hr] at hput hno hsz ⊢
  obtain ⟨c, hc⟩ : ∃ c, content x = c := ⟨_, rfl⟩
  rw [hc] at hput hsz HCT
  clear hr hc
  obtain ⟨st, d, u⟩ := x
  simp only at hd HR1 hno hput
  unfold pgV at HCT
  simp only at HCT
  have M0 := Lib.hid ((Mem.start w).alloc #[.int .i64 st, .string d, .bool u] 37)
  show Calls Try.prog 45 #[.agg #[.int .i64 st, .string d, .bool u]] w _
  by_cases h1 : st = 1
  · subst h1
    have HB := Lib.hid (HR1.out rfl)
    by_cases hs : d.size = 128
    · have hb : ((d.size : Int) == 128) = true := by simp [hs]
      have HF : Hid (r = true) := show _ = _ by rw [HB.out]; simp [hs]
      clear hs
      go_enter Try.func45, Try.ntmps45
      go_wp2
      go_ret
      exact ⟨ret_b (by rw [HF.out]), M0.out.held⟩
    · have hb : ((d.size : Int) == 128) = false := by simp; omega
      have HF : Hid (r = false) := show _ = _ by rw [HB.out]; simp [hs]
      clear hs
      go_enter Try.func45, Try.ntmps45
      go_wp2
      go_ret
      exact ⟨ret_b (by rw [HF.out]), M0.out.held⟩
  have h1b : (st == 1) = false := by simp [h1]
  by_cases h23 : st = 2 ∨ st = 3
  · by_cases hs : c.size = 128
    · have hsb : ((c.size : Int) == 128) = true := by simp [hs]
      have HRR := Lib.hid (hput.out h23 hs)
      have HOU := Lib.hid (fun w => out_ref c w (by omega))
      obtain ⟨q, hq⟩ : ∃ q, putOut c = q := ⟨_, rfl⟩
      rw [hq] at HOU HRR
      unfold RetP pgV at HOU
      clear hq hs
      obtain ⟨a2, ha2⟩ : ∃ a2, (st == 2) = a2 := ⟨_, rfl⟩
      have ha3 : a2 = false → (st == 3) = true := fun h => by subst h; rcases h23 with h | h; (rw [h] at ha2; simp at ha2); (rw [h]; rfl)
      obtain ⟨a3, ha3'⟩ : ∃ a3, (st == 3) = a3 := ⟨_, rfl⟩
      rw [ha3'] at ha3
      clear h23 h1
      obtain ⟨w1, hw1⟩ : ∃ w1, w.alloc (.cells #[.int .i64 st, .string d, .bool u] 37) = w1 := ⟨_, rfl⟩
      have M1 := M0.out
      rw [hw1] at M1
      obtain ⟨⟨c0, c1, c2⟩, _, _⟩ := M1.box3 0 rfl
      have HW1 := Lib.hid hw1
      have k0 := cell_regrown c0
      have k1 := cell_regrown c1
      have k2 := cell_regrown c2
      have cA := Lib.hid fun dd os => Calls.regrown_of (d := dd) (os := os) (HCT.out (grow (redrawn w1 dd) os))
      have cB := Lib.hid fun dd os => Calls.regrown_of (d := dd) (os := os) (HOU.out (grow (redrawn w1 dd) os))
      have HM1 := Lib.hid M1
      clear M1 hw1 M0
      have heq := run_eql_paged (x := q) (y := ⟨st, d, u⟩) HRR.out
      go_enter Try.func45, Try.ntmps45
      go_wp2
      rw [HW1.out]
      cases a2
      · obtain rfl := ha3 rfl
        clear ha3
        refine wp_region_quiet_below (by kernel_rfl) (by kernel_rfl) ?_
        repeat (go_big_quiet_step (first | (go_at_call 44; exact cA.out _ _) | (go_at_call 43; exact cB.out _ _)))
        refine wpQuiet_nil ?_
        intro _ hw'
        obtain ⟨⟨dq, osq⟩, hw''⟩ := hw'
        subst hw''
        go_wp2
        go_ret
        exact ⟨rfl, HM1.out.held.step (below_regrown w1 dq osq)⟩
      · clear ha3
        refine wp_region_quiet_below (by kernel_rfl) (by kernel_rfl) ?_
        repeat (go_big_quiet_step (first | (go_at_call 44; exact cA.out _ _) | (go_at_call 43; exact cB.out _ _)))
        refine wpQuiet_nil ?_
        intro _ hw'
        obtain ⟨⟨dq, osq⟩, hw''⟩ := hw'
        subst hw''
        go_wp2
        go_ret
        exact ⟨rfl, HM1.out.held.step (below_regrown w1 dq osq)⟩
    · have hsb : ((c.size : Int) == 128) = false := by simp; omega
      have HRR : Hid (r = false) := hsz.out hs
      rw [HRR.out]
      clear hs
      obtain ⟨a2, ha2⟩ : ∃ a2, (st == 2) = a2 := ⟨_, rfl⟩
      have ha3 : a2 = false → (st == 3) = true := fun h => by subst h; rcases h23 with h | h; (rw [h] at ha2; simp at ha2); (rw [h]; rfl)
      obtain ⟨a3, ha3'⟩ : ∃ a3, (st == 3) = a3 := ⟨_, rfl⟩
      rw [ha3'] at ha3
      clear h23 h1
      obtain ⟨w1, hw1⟩ : ∃ w1, w.alloc (.cells #[.int .i64 st, .string d, .bool u] 37) = w1 := ⟨_, rfl⟩
      have M1 := M0.out
      rw [hw1] at M1
      obtain ⟨⟨c0, c1, c2⟩, _, _⟩ := M1.box3 0 rfl
      have HW1 := Lib.hid hw1
      have k0 := cell_regrown c0
      have k1 := cell_regrown c1
      have k2 := cell_regrown c2
      have cA := Lib.hid fun dd os => Calls.regrown_of (d := dd) (os := os) (HCT.out (grow (redrawn w1 dd) os))
      have HM1 := Lib.hid M1
      clear M1 hw1 M0
      go_enter Try.func45, Try.ntmps45
      go_wp2
      rw [HW1.out]
      cases a2
      · obtain rfl := ha3 rfl
        clear ha3
        refine wp_region_quiet_below (by kernel_rfl) (by kernel_rfl) ?_
        repeat (go_big_quiet_step (first | (go_at_call 44; exact cA.out _ _)))
        refine wpQuiet_nil ?_
        intro _ hw'
        obtain ⟨⟨dq, osq⟩, hw''⟩ := hw'
        subst hw''
        go_wp2
        go_ret
        exact ⟨rfl, HM1.out.held.step (below_regrown w1 dq osq)⟩
      · clear ha3
        refine wp_region_quiet_below (by kernel_rfl) (by kernel_rfl) ?_
        repeat (go_big_quiet_step (first | (go_at_call 44; exact cA.out _ _)))
        refine wpQuiet_nil ?_
        intro _ hw'
        obtain ⟨⟨dq, osq⟩, hw''⟩ := hw'
        subst hw''
        go_wp2
        go_ret
        exact ⟨rfl, HM1.out.held.step (below_regrown w1 dq osq)⟩
  · rw [hno.out h1 h23]
    have h2b : (st == 2) = false := by simp; omega
    have h3b : (st == 3) = false := by simp; omega
    clear h23 h1
    obtain ⟨w1, hw1⟩ : ∃ w1, w.alloc (.cells #[.int .i64 st, .string d, .bool u] 37) = w1 := ⟨_, rfl⟩
    have M1 := M0.out
    rw [hw1] at M1
    obtain ⟨⟨c0, c1, c2⟩, _, _⟩ := M1.box3 0 rfl
    have HW1 := Lib.hid hw1
    have k0 := cell_regrown c0
    have k1 := cell_regrown c1
    have k2 := cell_regrown c2
    have HM1 := Lib.hid M1
    clear M1 hw1 M0
    go_enter Try.func45, Try.ntmps45
    go_wp2
    rw [HW1.out]
    refine wp_region_quiet_below (by kernel_rfl) (by kernel_rfl) ?_
    repeat (go_big_quiet_step (fail))
    refine wpQuiet_nil ?_
    intro _ hw'
    obtain ⟨⟨dq, osq⟩, hw''⟩ := hw'
    subst hw''
    go_wp2
    go_ret
    exact ⟨rfl, HM1.out.held.step (below_regrown w1 dq osq)⟩
end Pg
end Go.Proofs.Ytgfbfmgdlbdlhaa
