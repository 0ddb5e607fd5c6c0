/-
  Chapter 33: after the announcement of a guest frames to it go to its port: the walk.
-/
import Derived.Test.YtnmhmjcpiijkcaaLawSw
set_option linter.unusedVariables false
set_option maxRecDepth 100000
namespace Go.Proofs.Ytnmhmjcpiijkcaa
open Go.RowKit
open Rw (IsRow bd_i64)
namespace Net
theorem view_of {o : Option Addr} {len cap : Nat} {z : List Int} {W : World} (h : IsRow .i64 W o len cap z) : ∃ L : List Int, L.length = len ∧ (len : Int) ≤ 9223372036854775807 ∧ (∀ n ∈ L, (Lit.int .i64 n).wf = true) ∧ (len = 0 ∨ ∃ b off, o = some ⟨b, off, none⟩ ∧ b < W.heap.size ∧ ∀ i (h : i < L.length), W.cell? ⟨b, off + i, none⟩ = some (.int .i64 L[i])) := by
  obtain ⟨L, hL, hmax, hwf, hcell⟩ := h.view
  exact ⟨L, hL, by unfold maxLen at hmax; omega, hwf, hcell⟩
theorem row_at {o : Option Addr} {len : Nat} {L : List Int} {W w : World} (hL : L.length = len) (hwf : ∀ n ∈ L, (Lit.int .i64 n).wf = true) (h : len = 0 ∨ ∃ b off, o = some ⟨b, off, none⟩ ∧ b < W.heap.size ∧ ∀ i (h : i < L.length), W.cell? ⟨b, off + i, none⟩ = some (.int .i64 L[i])) (hh : Held W w) {i : Nat} (hi : i < len) :
    ∃ b off a, o = some ⟨b, off, none⟩ ∧ w.cell? ⟨b, off + i, none⟩ = some (.int .i64 a) ∧ -9223372036854775808 ≤ a ∧ a ≤ 9223372036854775807 ∧ b < W.heap.size := by
  rcases h with h0 | ⟨b, off, e, hb, hc⟩
  · omega
  · have hi' : i < L.length := by omega
    have := bd_i64 (hwf _ (List.getElem_mem hi'))
    exact ⟨b, off, L[i], e, hh.cell (hc i hi'), this.1, this.2, hb⟩
theorem one_out {B : Nat} {w : World} {A : Option Addr} {d : Nat} {p : Int} (h : Own 3 1 intC B w (.slice A 1 d) [p]) (o : Obj) : ∃ b off, A = some ⟨b, off, none⟩ ∧ (w.alloc o).cell? ⟨b, off, none⟩ = some (.int .i64 p) := by
  obtain ⟨b, off, x, e, _, hx, hc⟩ := (h.reads intC_len).1.at_ ((Held.refl w).alloc o) (k := 0) (by decide)
  have hxp : x = p := by simpa using hx.symm
  subst hxp
  exact ⟨b, off, e, by simpa using hc 0 _ rfl⟩
theorem flood8 (p : Int) (h1 : 0 ≤ p) (h2 : p < 8) : (flood 8 p).length = 7 := by
  obtain rfl | rfl | rfl | rfl | rfl | rfl | rfl | rfl : p = 0 ∨ p = 1 ∨ p = 2 ∨ p = 3 ∨ p = 4 ∨ p = 5 ∨ p = 6 ∨ p = 7 := by omega
  all_goals decide
theorem filt_idx {α : Type} (q : α → Bool) : ∀ (L : List α) (k : Nat) (x : α), L[k]? = some x → q x = true → ∃ k', k' ≤ k ∧ (L.filter q)[k']? = some x
  | [], k, x, h, _ => by simp at h
  | y :: L, 0, x, h, hq => by
    simp at h
    subst h
    exact ⟨0, Nat.le_refl _, by rw [List.filter_cons, if_pos hq]; rfl⟩
  | y :: L, k + 1, x, h, hq => by
    obtain ⟨k', h1, h2⟩ := filt_idx q L k x (by simpa using h) hq
    by_cases hy : q y = true
    · exact ⟨k' + 1, by omega, by rw [List.filter_cons, if_pos hy]; simpa using h2⟩
    · exact ⟨k', by omega, by rw [List.filter_cons, if_neg hy]; exact h2⟩
theorem learn_idx {L : List Lr} {k : Nat} {x : Lr} {a : Nat} {p : Int} (h : L[k]? = some x) (hne : ¬ x.a = a) (hk : k ≤ 14) : ∃ k', k' ≤ k + 1 ∧ (learnL L a p)[k']? = some x := by
  obtain ⟨k', h1, h2⟩ := filt_idx (fun x => decide (¬ x.a = a)) L k x h (by simpa using hne)
  refine ⟨k' + 1, by omega, ?_⟩
  unfold learnL
  rw [List.getElem?_take, if_pos (by omega)]
  simpa using h2
theorem learn_first (L : List Lr) (a : Nat) (p : Int) : (learnL L a p)[0]? = some ⟨a, p⟩ := rfl
theorem outs_hit {P pt : Int} {M : List Lr} {k : Nat} {x : Lr} (hv : VS P M) (h : M[k]? = some x) : outs P pt M x.a = if x.p = pt then [] else [x.p] := by
  obtain ⟨hk, rfl⟩ := List.getElem?_eq_some_iff.1 h
  have ht : tgt M M[k].a = M[k].p := tgtF_hit _ _ _ hv.dis _ (List.getElem_mem hk) rfl
  have := (hv.ent _ (List.getElem_mem hk)).2
  unfold outs
  rw [ht, if_neg (by omega)]
theorem outs_all {P pt : Int} {M : List Lr} (hv : VS P M) : outs P pt M 255 = flood P pt := by
  have ht : tgt M 255 = -1 := tgtF_none _ _ _ (fun x hx e => by have := (hv.ent x hx).1; omega)
  unfold outs
  rw [if_pos ht]
set_option maxHeartbeats 8000000 in
theorem moves (o1 : Option Addr) (n1 c1 : Nat) (z1 : List Int) (o2 : Option Addr) (n2 c2 : Nat) (z2 : List Int) (port from' : Int) (o3 : Option Addr) (n3 c3 : Nat) (z3 : List Int) (hp : (Lit.int .i64 port).wf = true) (hf : (Lit.int .i64 from').wf = true) (W : World)
    (h1 : IsRow .i64 W o1 n1 c1 z1) (h2 : IsRow .i64 W o2 n2 c2 z2) (h3 : IsRow .i64 W o3 n3 c3 z3) :
    Calls Try.prog 4 #[.slice o1 n1 c1, .slice o2 n2 c2, .int .i64 port, .int .i64 from', .slice o3 n3 c3] W fun e w' => e = .returned (.bool true) ∧ Below W.heap.size W w' := by
  obtain ⟨L1, hL1, m1, wf1, q1⟩ := view_of h1
  obtain ⟨L2, hL2, m2, wf2, q2⟩ := view_of h2
  obtain ⟨L3, hL3, m3, wf3, q3⟩ := view_of h3
  have R1 := fun w (hh : Held W w) i (hi : i < n1) => Lib.hid (row_at hL1 wf1 q1 hh hi)
  have R2 := fun w (hh : Held W w) i (hi : i < n2) => Lib.hid (row_at hL2 wf2 q2 hh hi)
  have R3 := fun w (hh : Held W w) i (hi : i < n3) => Lib.hid (row_at hL3 wf3 q3 hh hi)
  have bp := bd_i64 hp
  have bf := bd_i64 hf
  have R1 := Lib.hid R1
  have R2 := Lib.hid R2
  have R3 := Lib.hid R3
  clear h1 h2 h3 hL1 hL2 hL3 wf1 wf2 wf3 q1 q2 q3 hp hf
  by_cases g1 : (40 : Int) < n1
  · go_enter Try.func4, Try.ntmps4
    go_wp2_with (go_at_call 5; refine (awake_any _).mono ?_; rintro e w1 ⟨rfl, hh⟩)
    go_ret
    exact ⟨rfl, hh⟩
  · by_cases g2 : (n2 : Int) < n1
    · go_enter Try.func4, Try.ntmps4
      go_wp2_with (go_at_call 5; refine (awake_any _).mono ?_; rintro e w1 ⟨rfl, hh⟩)
      go_ret
      exact ⟨rfl, hh⟩
    · by_cases g3 : (10 : Int) < n3
      · go_enter Try.func4, Try.ntmps4
        go_wp2_with (go_at_call 5; refine (awake_any _).mono ?_; rintro e w1 ⟨rfl, hh⟩)
        go_ret
        exact ⟨rfl, hh⟩
      · go_enter Try.func4, Try.ntmps4
        go_wp2_with fail
        refine (new_any 8 W (by omega) (by omega)).mono ?_
        rintro e w1 ⟨rfl, k1⟩
        have S1 := Lib.hid (sw_new (W := W) 8 (by omega) (by omega) k1)
        clear k1
        go_wp2
        generalize w1.heap.size = b at S1 ⊢
        generalize (w1.alloc _) = wS at S1 ⊢
        go_loopw [13] (fun i wr => ∃ (j : Nat) (tv : Value) (L : List Lr), i = .int .i64 j ∧ j ≤ n1 ∧ Sw W b 8 tv L wr) (fun i _ => n1 - (intOf i).toNat)
        case atStart => exact ⟨0, _, _, rfl, Nat.zero_le _, S1.out⟩
        case round =>
          obtain ⟨j, tv, L, rfl, hj, hS⟩ := hrel
          clear S1
          have S2 := Lib.hid hS
          clear hS
          by_cases hlt : (j : Int) < n1
          · obtain ⟨b1, off1, a1, rfl, f1, _, _, _⟩ := (R1.out _ S2.out.held j (by omega)).out
            go_wp2_with fail
            refine (frame_any a1 _).mono ?_
            rintro e w2 ⟨f, to, fr, rfl, hfs, hfr, ⟨hf2, hto, hfr'⟩, k2⟩
            have S3 := Lib.hid (S2.out.keep k2)
            clear k2 f1
            obtain ⟨b2, off2, a2, rfl, f2, ha1, ha2, hb2⟩ := (R2.out _ S3.out.held j (by omega)).out
            obtain ⟨A, cap, rfl, _, _⟩ := own_shape' S3.out.own
            obtain ⟨c0, c1, c2, c3⟩ := S3.out.cells
            have hrb := Mk.round_bd a2 8 (by omega)
            obtain ⟨pt, hpt⟩ : ∃ pt, Mk.round a2 8 = pt := ⟨_, rfl⟩
            rw [hpt] at hrb
            have HPT := Lib.hid hpt
            clear hpt
            have hfw := fun w (k : Held w2 w) => Lib.hid (forward_own 8 pt L f W.heap.size w _ (Own.held S3.out.own k) S3.out.vs hf2 hfs (by omega) (by omega) to fr hto hfr' (by omega))
            go_wp2
            go_region_with (first | (go_at_call 8; refine (Mk.round_any _ _ (by omega) (by omega) (by omega) (by omega) _).mono ?_; rintro e w3 ⟨rfl, rfl⟩; rw [HPT.out]) | (go_at_call 9; refine (hfw _ (Held.refl w2).drew).out.mono ?_; rintro e w4 ⟨tv4, ov4, rfl, ho4, hO4, k4⟩; obtain ⟨A4, cap4, rfl, _, _⟩ := own_shape' ho4; obtain ⟨d0, d1, d2, d3⟩ := (S3.out.keep ((Held.refl w2).drew.step k4)).cells; have S5 := Lib.hid ((S3.out.keep (Held.refl w2).drew).put ho4 hO4 k4 (learn_vs S3.out.vs fr pt (by omega) (by omega) (by omega))); clear ho4 hO4 k4))
            all_goals
              go_wp2
              go_roundw
              case rel => exact ⟨j + 1, _, _, by go_num, by omega, S5.out.1⟩
              case measure => (simp [intOf]) <;> omega
          · have hrp := Mk.round_bd port 8 (by omega)
            obtain ⟨p, hp⟩ : ∃ p, Mk.round port 8 = p := ⟨_, rfl⟩
            rw [hp] at hrp
            have HP := Lib.hid hp
            obtain ⟨A, cap, rfl, _, _⟩ := own_shape' S2.out.own
            obtain ⟨c0, c1, c2, c3⟩ := S2.out.cells
            have han := fun w => Lib.hid (announce_any 200 (by omega) w)
            have hmv := learn_vs S2.out.vs 200 p (by omega) hrp.1 hrp.2
            have hfw := fun w (k : Held wr w) => Lib.hid (forward_own 8 p L ⟨#[255, UInt8.ofNat 200]⟩ W.heap.size w _ (Own.held S2.out.own k) S2.out.vs (by decide) (by decide) hrp.1 hrp.2 255 200 rfl rfl (by omega))
            rw [outs_all hmv] at hfw
            have hl7 := flood8 p hrp.1 hrp.2
            have HMV := Lib.hid hmv
            generalize flood 8 p = O7 at hfw hl7
            have HL7 := Lib.hid hl7
            have HF1 := Lib.hid (learn_first L 200 p)
            generalize learnL L 200 p = M at hfw HMV HF1
            clear hp hmv hl7
            go_wp2_with (go_at_call 8; refine (Mk.round_any _ _ (by omega) (by omega) (by omega) (by omega) _).mono ?_; rintro e w3 ⟨rfl, rfl⟩; rw [HP.out])
            go_region_with (first | (go_at_call 11; refine (han _).out.mono ?_; rintro e w3 ⟨rfl, k3⟩; have K3 : Held wr w3 := (Held.refl wr).drew.step k3; obtain ⟨e0, e1, e2, e3⟩ := (S2.out.keep K3).cells) | (go_at_call 9; refine (hfw _ K3).out.mono ?_; rintro e w4 ⟨tv4, ov4, rfl, ho4, hO4, k4⟩; obtain ⟨A4, cap4, rfl, _, _⟩ := own_shape' ho4; obtain ⟨B4, d4, rfl, _, _⟩ := hO4.shape; obtain ⟨d0, d1, d2, d3⟩ := (S2.out.keep (K3.step k4)).cells; have S5 := Lib.hid ((S2.out.keep K3).put ho4 hO4 k4 HMV.out); clear ho4 hO4 k4))
            all_goals
              rw [HL7.out]
              go_wp2
              have S6 := Lib.hid (And.intro S5.out.1 HF1.out)
              clear d0 d1 d2 d3 e0 e1 e2 e3 c0 S5 hfw HF1 K3 HMV han S2
              obtain ⟨wB, hwB⟩ : ∃ x, x = (w4.setCell ⟨b, 0, none⟩ (.int .i64 8)).setCell ⟨b, 1, none⟩ (.slice A4 M.length cap4) := ⟨_, rfl⟩
              rw [← hwB] at S6 ⊢
              clear hwB
              go_loopw [19] (fun i wr => ∃ (j k : Nat) (tv : Value) (L : List Lr), i = .int .i64 j ∧ j ≤ n3 ∧ k ≤ j ∧ L[k]? = some ⟨200, p⟩ ∧ Sw W b 8 tv L wr) (fun i _ => n3 - (intOf i).toNat)
              case atStart => exact ⟨0, 0, _, _, rfl, Nat.zero_le _, Nat.le_refl _, S6.out.2, S6.out.1⟩
              case round =>
                obtain ⟨j2, k, tv, L, rfl, hj2, hkj, hLk, hS⟩ := hrel
                clear S6
                have S2 := Lib.hid (And.intro hS hLk)
                clear hS hLk
                by_cases hlt2 : (j2 : Int) < n3
                · obtain ⟨b1, off1, a1, rfl, f1, ha1, ha2, _⟩ := (R3.out _ S2.out.1.held j2 (by omega)).out
                  have hrb := Mk.round_bd a1 8 (by omega)
                  obtain ⟨pt, hpt⟩ : ∃ pt, Mk.round a1 8 = pt := ⟨_, rfl⟩
                  rw [hpt] at hrb
                  have HPT := Lib.hid hpt
                  clear hpt
                  go_wp2_with fail
                  refine (frame_any a1 _).mono ?_
                  rintro e w2 ⟨f, to, fr, rfl, hfs, hfr, ⟨hf2, hto, hfr'⟩, k2⟩
                  have S3 := Lib.hid (S2.out.1.keep k2)
                  have f2 := k2.cell f1
                  clear k2 f1
                  obtain ⟨A, cap, rfl, _, _⟩ := own_shape' S3.out.own
                  obtain ⟨c0, c1, c2, c3⟩ := S3.out.cells
                  have hfw := fun w (k : Held w2 w) => Lib.hid (forward_own 8 pt L f W.heap.size w _ (Own.held S3.out.own k) S3.out.vs hf2 hfs (by omega) (by omega) to fr hto hfr' (by omega))
                  obtain ⟨k', hk', hLk'⟩ := learn_idx (a := fr) (p := pt) S2.out.2 (by show ¬ 200 = fr; omega) (by omega)
                  have HLK := Lib.hid hLk'
                  clear hLk'
                  go_wp2
                  go_region_with (first | (go_at_call 8; refine (Mk.round_any _ _ (by omega) (by omega) (by omega) (by omega) _).mono ?_; rintro e w3 ⟨rfl, rfl⟩; rw [HPT.out]) | (go_at_call 9; refine (hfw _ (Held.refl w2).drew).out.mono ?_; rintro e w4 ⟨tv4, ov4, rfl, ho4, hO4, k4⟩; obtain ⟨A4, cap4, rfl, _, _⟩ := own_shape' ho4; obtain ⟨d0, d1, d2, d3⟩ := (S3.out.keep ((Held.refl w2).drew.step k4)).cells; have S5 := Lib.hid ((S3.out.keep (Held.refl w2).drew).put ho4 hO4 k4 (learn_vs S3.out.vs fr pt (by omega) (by omega) (by omega))); clear ho4 hO4 k4))
                  all_goals
                    go_wp2
                    go_roundw
                    case rel => exact ⟨j2 + 1, k', _, _, by go_num, by omega, by omega, HLK.out, S5.out.1⟩
                    case measure => (simp [intOf]) <;> omega
                · have hrq := Mk.round_bd from' 8 (by omega)
                  obtain ⟨q, hq⟩ : ∃ q, Mk.round from' 8 = q := ⟨_, rfl⟩
                  rw [hq] at hrq
                  have HQ := Lib.hid hq
                  clear hq
                  obtain ⟨A, cap, rfl, _, _⟩ := own_shape' S2.out.1.own
                  obtain ⟨c0, c1, c2, c3⟩ := S2.out.1.cells
                  have hc := fun w g cap => two_back' w g cap 200 3 200 3 rfl rfl (by omega) (by omega)
                  have hfw := fun w (k : Held wr w) => Lib.hid (forward_own 8 q L ⟨#[UInt8.ofNat 200, UInt8.ofNat 3]⟩ W.heap.size w _ (Own.held S2.out.1.own k) S2.out.1.vs (by decide) (by decide) hrq.1 hrq.2 200 3 rfl rfl (by omega))
                  obtain ⟨k', hk', hLk'⟩ := learn_idx (a := 3) (p := q) S2.out.2 (by show ¬ 200 = 3; omega) (by omega)
                  have hou := outs_hit (pt := q) (learn_vs S2.out.1.vs 3 q (by omega) hrq.1 hrq.2) hLk'
                  have hou2 : outs 8 q (learnL L 3 q) 200 = if p = q then [] else [p] := hou
                  rw [hou2] at hfw
                  clear hou hou2 hLk'
                  by_cases hpq : p = q
                  · rw [if_pos hpq] at hfw
                    subst hpq
                    go_wp2_with (first | (go_at_call 8; refine (Mk.round_any _ _ (by omega) (by omega) (by omega) (by omega) _).mono ?_; rintro e w3 ⟨rfl, rfl⟩; rw [HQ.out]) | (go_at_call 9; refine (hfw _ ((Held.refl wr).alloc _)).out.mono ?_; rintro e w4 ⟨tv4, ov4, rfl, ho4, hO4, k4⟩; obtain ⟨A4, cap4, rfl, _, _⟩ := own_shape' ho4; obtain ⟨B5, d5, rfl, _, _⟩ := hO4.shape; have H6 := Lib.hid (S2.out.1.held.step (((Held.refl wr).alloc _).step k4)); clear ho4 hO4 k4) | (go_at_call 5; refine (awake_any _).mono ?_; rintro e w8 ⟨rfl, hh8⟩))
                    go_ret
                    exact ⟨rfl, (H6.out.alloc _).step hh8⟩
                  · rw [if_neg hpq] at hfw
                    have hqp : ((q : Int) == p) = false := by simp; omega
                    have hqp2 : ¬ q = p := by omega
                    clear hpq
                    go_wp2_with (first | (go_at_call 8; refine (Mk.round_any _ _ (by omega) (by omega) (by omega) (by omega) _).mono ?_; rintro e w3 ⟨rfl, rfl⟩; rw [HQ.out]) | (go_at_call 9; refine (hfw _ ((Held.refl wr).alloc _)).out.mono ?_; rintro e w4 ⟨tv4, ov4, rfl, ho4, hO4, k4⟩; obtain ⟨A4, cap4, rfl, _, _⟩ := own_shape' ho4; obtain ⟨B5, d5, rfl, _, _⟩ := hO4.shape; obtain ⟨b5, o5, rfl, f5⟩ := one_out hO4 (.cells #[.int .i64 8, .slice A4 (learnL L 3 q).length cap4] 26); have H6 := Lib.hid (S2.out.1.held.step (((Held.refl wr).alloc _).step k4)); clear ho4 hO4 k4) | (go_at_call 5; refine (awake_any _).mono ?_; rintro e w8 ⟨rfl, hh8⟩))
                    go_ret
                    exact ⟨rfl, (H6.out.alloc _).step hh8⟩
end Net
end Go.Proofs.Ytnmhmjcpiijkcaa
