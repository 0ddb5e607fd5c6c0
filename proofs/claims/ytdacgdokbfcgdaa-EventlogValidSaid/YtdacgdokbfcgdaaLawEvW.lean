/-
  Chapter 19: validity of events: the law's walk.
-/
import Derived.Test.YtdacgdokbfcgdaaLawEvV
import Derived.Test.YtdacgdokbfcgdaaRds
set_option linter.unusedVariables false
set_option linter.unusedSimpArgs false
set_option maxRecDepth 100000
namespace Go.Proofs.Ytdacgdokbfcgdaa
open Go.RowKit Go.BigFrame Go.Sort Go.WideShapes
namespace Enc
open Lgc Lg Rw
theorem and_bd (a : Int) (b : Nat) (hb : b < 9223372036854775808) : 0 ≤ bits .and .i64 a b ∧ bits .and .i64 a b ≤ b := by
  have h : ((BitVec.ofInt 64 a).toNat &&& b) ≤ b := Nat.and_le_right
  have e : bits .and .i64 a b = (((BitVec.ofInt 64 a).toNat &&& b : Nat) : Int) := by
    show IntKind.i64.wrap (((BitVec.ofInt 64 a) &&& (BitVec.ofInt 64 (b : Int))).toNat : Int) = _
    rw [BitVec.toNat_and, ofInt_u64 b (by omega)]
    exact IntWalk.i64_in _ (by omega)
  rw [e]; omega
theorem rd_ev {w : World} {d : Nat} {cs : List Value} (h : Rds Try.prog w (8 + (d + 1)) 24 cs) : ∃ k n s, cs = [.int .i64 k, .int .u32 n, .string s] ∧ (Lit.int .i64 k).wf = true ∧ (Lit.int .u32 n).wf = true ∧ s.size ≤ maxLen := by
  have hv := lvs_of 24 8 (d + 1) (by kernel_rfl) (by kernel_rfl) h
  rw [show leaves Try.prog 8 24 = [3, 22, 9] by kernel_rfl] at hv
  obtain ⟨v0, _, rfl, h0, v1, _, rfl, h1, v2, _, rfl, h2, rfl⟩ := hv
  obtain ⟨k, rfl, w0⟩ := leaf_int Try.underlying3 h0
  obtain ⟨n, rfl, w1⟩ := leaf_int Try.underlying22 h1
  obtain ⟨s, rfl, w2⟩ := leaf_string Try.underlying9 h2
  exact ⟨k, n, s, rfl, w0, w1, w2⟩
theorem agg_of {cs : Array Value} {l : List Value} (h : cs.toList = l) : Value.agg cs = .agg l.toArray := by subst h; simp
theorem in_ev {H : Type} {enc : TypeId × Value → H} {w : World} {base : Nat} {spare : Nat → Bool} {held : Bool} {r : Reach} {b0 : Nat} {v : Value} {d : DataW H} {p : List MemPlace} (hv : Value.okWide Try.prog w r b0 24 v) (h : DataW.Trod enc Try.prog w base spare held 24 v d p) :
    ∃ k n s, v = .agg #[.int .i64 k, .int .u32 n, .string s] ∧ (Lit.int .i64 k).wf = true ∧ (Lit.int .u32 n).wf = true ∧ s.size ≤ maxLen := by
  obtain ⟨cs, rfl, _⟩ := okWide_struct Try.underlying24 hv
  obtain ⟨fuel, hf⟩ := h
  obtain ⟨k, n, s, e, hw⟩ := rd_ev (d := 0) (rds_of_trod 9 _ _ _ _ hf)
  exact ⟨k, n, s, agg_of e, hw⟩
theorem EB.put1 {w : World} {b : Nat} {k n : Int} {d : ByteArray} (h : EB w b k n d) (n' : Int) : EB (w.setCell ⟨b, 1, none⟩ (.int .u32 n')) b k n' d := by
  unfold EB at h ⊢
  rw [box_set h 1 _]; rfl
set_option maxHeartbeats 4000000 in
theorem validL (k m : Int) (d : ByteArray) (n : Int) (made : Bool) (wn : (Lit.int .i64 n).wf = true) (W : World) (g : (Lit.int .i64 k).wf = true ∧ (Lit.int .u32 m).wf = true ∧ d.size ≤ maxLen) :
    Calls Try.prog 3 #[.agg #[.int .i64 k, .int .u32 m, .string d], .int .i64 n, .bool made] W fun e w' => e = .returned (.bool true) ∧ Below W.heap.size W w' := by
  have bk := bd_i64 g.1
  have bm := bd_u32 g.2.1
  have bd := g.2.2
  unfold maxLen at bd
  have bd' : (d.size : Int) ≤ 9223372036854775807 := by omega
  have bn := bd_i64 wn
  clear g wn
  cases made
  · by_cases h300 : (300 : Int) < d.size
    · go_enter Try.func3, Try.ntmps3
      go_wp2_with (go_at_call 7; refine (awake_any _).mono ?_; rintro e w1 ⟨rfl, hh⟩)
      go_ret
      exact ⟨rfl, ((Held.refl W).alloc _).step hh⟩
    · go_enter Try.func3, Try.ntmps3
      go_wp2
      have B := Lib.hid (EB.new W k m d)
      have W0 := Lib.hid ((Held.refl W).alloc (.cells #[.int .i64 k, .int .u32 m, .string d] 24))
      obtain ⟨wB, hwB⟩ : ∃ x, x = W.alloc (.cells #[.int .i64 k, .int .u32 m, .string d] 24) := ⟨_, rfl⟩
      rw [← hwB] at B W0 ⊢
      clear hwB
      obtain ⟨⟨c0, c1, c2⟩, _, _⟩ := EB.facts B.out
      have k0 := cell_regrown c0
      have k1 := cell_regrown c1
      have k2 := cell_regrown c2
      have cA := Lib.hid fun dd os => Calls.regrown_of (d := dd) (os := os) (Ev.valid_any k m d bk.1 bk.2 bm.1 bm.2 bd' (grow (redrawn wB dd) os))
      have cB := Lib.hid fun dd os => Calls.regrown_of (d := dd) (os := os) (Ev.valid_ref k m d bk.1 bk.2 bm.1 bm.2 bd' (grow (redrawn wB dd) os))
      have cC := Lib.hid fun dd os => Calls.regrown_of (d := dd) (os := os) (awake_any (grow (redrawn wB dd) os))
      generalize Ev.ok k m d.data.toList = okv at cA cB
      refine wp_region_quiet_below (by kernel_rfl) (by kernel_rfl) ?_
      repeat (go_big_quiet_step (first | (go_at_call 8; exact cA.out _ _) | (go_at_call 9; exact cB.out _ _) | (go_at_call 7; exact cC.out _ _)))
      refine wpQuiet_nil ?_
      intro _ hw'
      obtain ⟨⟨dq, osq⟩, hw''⟩ := hw'
      subst hw''
      go_wp2
      go_ret
      exact ⟨rfl, W0.out.step (below_regrown wB dq osq)⟩
  · have ha := and_bd n 1 (by omega)
    obtain ⟨z, hz⟩ : ∃ z, bits .and .i64 n 1 = z := ⟨_, rfl⟩
    have hz' : bits .and .i64 n ((1 : Nat) : Int) = z := hz
    rw [hz'] at ha
    clear hz'
    go_enter Try.func3, Try.ntmps3
    go_wp2_with fail
    refine (event_any n _).mono ?_
    rintro e w1 ⟨k', n', d', rfl, hk, hn, hd, h1⟩
    have B1 := Lib.hid ((h1.block _ (by simp)).trans (EB.new W k m d))
    have W1 := Lib.hid (((Held.refl W).alloc (.cells #[.int .i64 k, .int .u32 m, .string d] 24)).step h1)
    clear h1
    obtain ⟨⟨c0, c1, c2⟩, ⟨f0, f1, f2⟩, hlt⟩ := EB.facts B1.out
    have hz32 : IntKind.u32.wrap z = z := IntWalk.u32_in _ (by omega)
    go_wp2
    have hm0 : 0 ≤ (n' + z) % 4294967296 ∧ (n' + z) % 4294967296 ≤ 4294967295 := by omega
    generalize (n' + z) % 4294967296 = n'' at hm0 ⊢
    have B := Lib.hid (EB.put1 (EB.put B1.out k' n' d') n'')
    have W0 : Hid (Held W ((((w1.setCell ⟨W.heap.size, 0, none⟩ (.int .i64 k')).setCell ⟨W.heap.size, 1, none⟩ (.int .u32 n')).setCell ⟨W.heap.size, 2, none⟩ (.string d')).setCell ⟨W.heap.size, 1, none⟩ (.int .u32 n''))) := (held3 W1.out (Nat.le_refl _) _ _ _).set (Nat.le_refl _) _
    obtain ⟨wB, hwB⟩ : ∃ x, x = (((w1.setCell ⟨W.heap.size, 0, none⟩ (.int .i64 k')).setCell ⟨W.heap.size, 1, none⟩ (.int .u32 n')).setCell ⟨W.heap.size, 2, none⟩ (.string d')).setCell ⟨W.heap.size, 1, none⟩ (.int .u32 n'') := ⟨_, rfl⟩
    rw [← hwB] at B W0 ⊢
    clear hwB c0 c1 c2 f0 f1 f2 hlt
    obtain ⟨⟨c0, c1, c2⟩, _, _⟩ := EB.facts B.out
    have k0 := cell_regrown c0
    have k1 := cell_regrown c1
    have k2 := cell_regrown c2
    have cA := Lib.hid fun dd os => Calls.regrown_of (d := dd) (os := os) (Ev.valid_any k' n'' d' (by omega) (by omega) hm0.1 hm0.2 (by omega) (grow (redrawn wB dd) os))
    have cB := Lib.hid fun dd os => Calls.regrown_of (d := dd) (os := os) (Ev.valid_ref k' n'' d' (by omega) (by omega) hm0.1 hm0.2 (by omega) (grow (redrawn wB dd) os))
    have cC := Lib.hid fun dd os => Calls.regrown_of (d := dd) (os := os) (awake_any (grow (redrawn wB dd) os))
    generalize Ev.ok k' n'' d'.data.toList = okv at cA cB
    refine wp_region_quiet_below (by kernel_rfl) (by kernel_rfl) ?_
    repeat (go_big_quiet_step (first | (go_at_call 8; exact cA.out _ _) | (go_at_call 9; exact cB.out _ _) | (go_at_call 7; exact cC.out _ _)))
    refine wpQuiet_nil ?_
    intro _ hw'
    obtain ⟨⟨dq, osq⟩, hw''⟩ := hw'
    subst hw''
    go_wp2
    go_ret
    exact ⟨rfl, W0.out.step (below_regrown wB dq osq)⟩
end Enc
end Go.Proofs.Ytdacgdokbfcgdaa
