/-
  Chapter 33: what a switch learns, and where frames go: the walk.
-/
import Derived.Test.YtnmhmjcpiijkcaaSwP
import Derived.Test.YtnmhmjcpiijkcaaLawSw2
import Derived.Deep.DeepCutAuto
import Derived.IntWalk
set_option linter.unusedVariables false
set_option maxRecDepth 100000
namespace Go.Proofs.Ytnmhmjcpiijkcaa
open Go.RowKit Go.BigFrame
open Rw (IsRow bd_i64)
namespace Net
theorem own_low {α : Type} {e : TypeId} {s : Nat} {f : α → List Value} {B N : Nat} {w w' : World} {v : Value} {L : List α} (h : Own e s f B w v L) (hN : w.heap.size ≤ N) {u : World} (hu : Held w u) (hb : Below N u w') : Own e s f B w' v L := by
  refine ⟨h.1, h.2.imp id ?_⟩
  rintro ⟨g, cp, cur, he, q1, q2, q3⟩
  have hg := (Array.getElem?_eq_some_iff.1 q2).1
  exact ⟨g, cp, cur, he, q1, (hb.block g (by omega)).trans ((hu.block g hg).trans q2), q3⟩
/-- What lies below N0 in the round: the law's switch, the new switch's box, the lists. -/
structure Rn (W : World) (b bx N0 : Nat) (P : Int) (tv tv4 sv ov : Value) (L M : List Lr) (O : List Int) (w : World) : Prop where
  sw : Sw W b P tv L w
  box : w.heap[bx]? = some (.cells #[.int .i64 P, tv4] 26 (0, 0))
  own : Own 35 2 lrC W.heap.size w tv4 M
  seen : Own 35 2 lrC W.heap.size w sv L
  outp : Own 3 1 intC W.heap.size w ov O
  low : b < N0 ∧ bx < N0 ∧ ∀ g, (tv.ownBlock = some g ∨ tv4.ownBlock = some g ∨ sv.ownBlock = some g ∨ ov.ownBlock = some g) → g < N0
  ne4 : ∀ g, tv4.ownBlock = some g → g ≠ b
  vs : VS P M
  le : N0 ≤ w.heap.size
  leW : W.heap.size ≤ N0
theorem own_below {α : Type} {e : TypeId} {s : Nat} {f : α → List Value} {B N : Nat} {w w' : World} {v : Value} {L : List α} (h : Own e s f B w v L) (hN : ∀ g, v.ownBlock = some g → g < N) (hb : Below N w w') : Own e s f B w' v L := by
  refine ⟨h.1, h.2.imp id ?_⟩
  rintro ⟨g, cp, cur, rfl, q1, q2, q3⟩
  exact ⟨g, cp, cur, rfl, q1, (hb.block g (hN g rfl)).trans q2, q3⟩
theorem Rn.keep {W w w' : World} {b bx N0 : Nat} {P : Int} {tv tv4 sv ov : Value} {L M : List Lr} {O : List Int} (h : Rn W b bx N0 P tv tv4 sv ov L M O w) (k : Below N0 w w') : Rn W b bx N0 P tv tv4 sv ov L M O w' := by
  have hl := h.low
  have hW := h.leW
  refine ⟨⟨(k.block _ hl.1).trans h.sw.box, own_below h.sw.own (fun g hg => hl.2.2 g (.inl hg)) k, h.sw.ne, h.sw.ge, ⟨k.os.trans h.sw.held.os, k.tape.trans h.sw.held.tape, k.output.trans h.sw.held.output, Nat.le_trans h.sw.held.size k.size, fun c hc => (k.block c (by omega)).trans (h.sw.held.block c hc)⟩, h.sw.vs⟩, (k.block _ hl.2.1).trans h.box,
    own_below h.own (fun g hg => hl.2.2 g (.inr (.inl hg))) k, own_below h.seen (fun g hg => hl.2.2 g (.inr (.inr (.inl hg)))) k, own_below h.outp (fun g hg => hl.2.2 g (.inr (.inr (.inr hg)))) k, hl, h.ne4, h.vs, Nat.le_trans h.le k.size, hW⟩
theorem rn_start {W w2 w4 : World} {b : Nat} {P : Int} {tv tv4 sv ov : Value} {L M : List Lr} {O : List Int} {o : Obj} (h : Sw W b P tv L w2) (hs : Own 35 2 lrC W.heap.size w2 sv L) (ho : Own 35 2 lrC w2.heap.size w4 tv4 M) (hO : Own 3 1 intC w2.heap.size w4 ov O) (k : Held w2 w4) (hv : VS P M) :
    Rn W b w4.heap.size (w4.heap.size + 1) P tv tv4 sv ov L M O ((w4.alloc (.cells #[.int .i64 P, tv4] 26)).alloc o) := by
  have hle := h.held.le
  have hk := k.le
  have hal : Held w4 ((w4.alloc (.cells #[.int .i64 P, tv4] 26)).alloc o) := ((Held.refl w4).alloc _).alloc _
  have hb := h.lt
  refine ⟨h.keep (k.step hal), ?_, Own.held (Own.mono ho hle) hal, Own.held hs (k.step hal), Own.held (Own.mono hO hle) hal, ⟨by omega, by omega, fun g hg => ?_⟩, fun g hg => ?_, hv, by simp, by omega⟩
  · rw [Below.heap_alloc _ _ _ (by simp)]; exact heap_alloc_new w4 _
  · rcases hg with hg | hg | hg | hg
    · have := (World.ownsRow.lt h.own g hg).2; omega
    · have := (World.ownsRow.lt ho g hg).2; omega
    · have := (World.ownsRow.lt hs g hg).2; omega
    · have := (World.ownsRow.lt hO g hg).2; omega
  · have := (World.ownsRow.lt ho g hg).1; omega
theorem own_first (w : World) (x : Lr) {B : Nat} (h : B ≤ w.heap.size) : Own 35 2 lrC B (w.alloc (.cells #[.int .u8 (x.a : Int), .int .i64 x.p] 35)) (.slice (some ⟨w.heap.size, 0, none⟩) 1 1) [x] :=
  ⟨by simp [lrC], .inr ⟨w.heap.size, 1, #[.int .u8 (x.a : Int), .int .i64 x.p], rfl, h, heap_alloc_new w _, Nat.le_refl _, by unfold maxLen; omega, by simp, by simp [lrC]⟩⟩
theorem news_lr (w : World) (x : Lr) (t : TypeId) : ∀ j u, (lrC x)[j]? = some u → (w.alloc (.cells #[.int .u8 (x.a : Int), .int .i64 x.p] t)).cell? ((⟨w.heap.size, 0, none⟩ : Addr).add j) = some u := by
  intro j u hu
  match j, hu with
  | 0, hu => simp [lrC] at hu; subst hu; simp [Addr.add]
  | 1, hu => simp [lrC] at hu; subst hu; simp [Addr.add]
  | j + 2, hu => simp [lrC] at hu
theorem filt_next {L : List Lr} {q : Nat} (hq : q < L.length) (a : Nat) : ((L.take (q + 1)).filter fun x => decide (¬ x.a = a)) = ((L.take q).filter fun x => decide (¬ x.a = a)) ++ if L[q].a = a then [] else [L[q]] := by
  rw [List.take_succ_eq_append_getElem hq, List.filter_append, List.filter_cons]
  by_cases h : L[q].a = a
  · rw [if_pos h, if_neg (by simpa using h)]; rfl
  · rw [if_neg h, if_pos (by simpa using h)]; rfl
theorem lr_info : (Try.prog.info? 35).map (fun i => (i.zero, i.size, i.bytes)) = some (some (.agg #[.int .u8 0, .int .i64 0]), 2, 16) := by kernel_rfl
theorem box_cell {w : World} {q : Nat} {cs : Array Value} {t : TypeId} {fz : Nat × Nat} (h : w.heap[q]? = some (.cells cs t fz)) (j : Nat) {v : Value} (hv : cs[j]? = some v) : w.cell? ⟨q, j, none⟩ = some v := by simp [World.cell?, h, hv]
theorem tgt_next {M : List Lr} {q : Nat} (hq : q < M.length) (a : Nat) (t : Int) : tgtF a t (M.take (q + 1)) = if M[q].a = a then M[q].p else tgtF a t (M.take q) := by
  induction M generalizing t q with
  | nil => simp at hq
  | cons x M ih =>
    match q, hq with
    | 0, _ => simp [tgtF]
    | q + 1, hq =>
      have := ih (q := q) (by simpa using hq) (if x.a = a then x.p else t)
      simpa [tgtF] using this
/-- The new switch in the law's variable. -/
theorem rn_put {W : World} {b bx N0 : Nat} {P : Int} {tv tv4 sv ov : Value} {L M : List Lr} {O : List Int} {w : World} (h : Rn W b bx N0 P tv tv4 sv ov L M O w) (B : Nat) (nv : Value) (hn : Own 35 2 lrC B w nv M) (hB : b < B) (hW : W.heap.size ≤ B) :
    Sw W b P tv4 M ((w.setCell ⟨b, 0, none⟩ (.int .i64 P)).setCell ⟨b, 1, none⟩ tv4) ∧ Own 35 2 lrC W.heap.size ((w.setCell ⟨b, 0, none⟩ (.int .i64 P)).setCell ⟨b, 1, none⟩ tv4) nv M ∧ ∀ g, nv.ownBlock = some g → g ≠ b := by
  have hne : ∀ g, nv.ownBlock = some g → g ≠ b := fun g hg => by have := (World.ownsRow.lt hn g hg).1; omega
  have hl := h.low
  refine ⟨⟨?_, ⟨h.own.1, h.own.2.imp id ?_⟩, h.ne4, h.sw.ge, ((h.sw.held).set h.sw.ge _).set h.sw.ge _, h.vs⟩, ⟨hn.1, hn.2.imp id ?_⟩, hne⟩
  · simp only [World.setCell]
    rw [Array.getElem?_modify, if_pos rfl, Array.getElem?_modify, if_pos rfl, h.sw.box]; rfl
  · rintro ⟨g, cp, cur, rfl, q1, q2, q3⟩
    exact ⟨g, cp, cur, rfl, q1, (Sw.set_other g (h.ne4 g rfl)).trans q2, q3⟩
  · rintro ⟨g, cp, cur, rfl, q1, q2, q3⟩
    exact ⟨g, cp, cur, rfl, Nat.le_trans hW q1, (Sw.set_other g (hne g rfl)).trans q2, q3⟩
set_option maxHeartbeats 8000000 in
theorem learns (P : Int) (o1 : Option Addr) (n1 c1 : Nat) (z1 : List Int) (o2 : Option Addr) (n2 c2 : Nat) (z2 : List Int) (hp : (Lit.int .i64 P).wf = true) (W : World) (h1 : IsRow .i64 W o1 n1 c1 z1) (h2 : IsRow .i64 W o2 n2 c2 z2) :
    Calls Try.prog 3 #[.int .i64 P, .slice o1 n1 c1, .slice o2 n2 c2] W fun e w' => e = .returned (.bool true) ∧ Below W.heap.size W w' := by
  obtain ⟨L1, hL1, m1, wf1, q1⟩ := view_of h1
  obtain ⟨L2, hL2, m2, wf2, q2⟩ := view_of h2
  have R1 := Lib.hid fun w (hh : Held W w) i (hi : i < n1) => Lib.hid (row_at hL1 wf1 q1 hh hi)
  have R2 := Lib.hid fun w (hh : Held W w) i (hi : i < n2) => Lib.hid (row_at hL2 wf2 q2 hh hi)
  have bp := bd_i64 hp
  clear h1 h2 hL1 hL2 wf1 wf2 q1 q2 hp
  by_cases g0 : P < 1
  · go_enter Try.func3, Try.ntmps3
    go_wp2_with (go_at_call 5; refine (awake_any _).mono ?_; rintro e w1 ⟨rfl, hh⟩)
    go_ret
    exact ⟨rfl, hh⟩
  · by_cases g1 : 8 < P
    · go_enter Try.func3, Try.ntmps3
      go_wp2_with (go_at_call 5; refine (awake_any _).mono ?_; rintro e w1 ⟨rfl, hh⟩)
      go_ret
      exact ⟨rfl, hh⟩
    · by_cases g2 : (60 : Int) < n1
      · go_enter Try.func3, Try.ntmps3
        go_wp2_with (go_at_call 5; refine (awake_any _).mono ?_; rintro e w1 ⟨rfl, hh⟩)
        go_ret
        exact ⟨rfl, hh⟩
      · by_cases g3 : (n2 : Int) < n1
        · go_enter Try.func3, Try.ntmps3
          go_wp2_with (go_at_call 5; refine (awake_any _).mono ?_; rintro e w1 ⟨rfl, hh⟩)
          go_ret
          exact ⟨rfl, hh⟩
        · go_enter Try.func3, Try.ntmps3
          go_wp2_with fail
          refine (new_any P W (by omega) (by omega)).mono ?_
          rintro e w1 ⟨rfl, k1⟩
          have S1 := Lib.hid (sw_new (W := W) P (by omega) (by omega) k1)
          clear k1
          go_wp2
          generalize w1.heap.size = b at S1 ⊢
          generalize (w1.alloc _) = wS at S1 ⊢
          go_loopw [9, 10] (fun sv i wr => ∃ (j : Nat) (tv : Value) (L : List Lr), i = .int .i64 j ∧ j ≤ n1 ∧ Sw W b P tv L wr ∧ Own 35 2 lrC W.heap.size wr sv L ∧ ∀ g, sv.ownBlock = some g → g ≠ b) (fun _ i _ => n1 - (intOf i).toNat)
          case atStart => exact ⟨0, _, _, rfl, Nat.zero_le _, S1.out, Own.nil _, fun g hg => by cases hg⟩
          case round =>
            obtain ⟨j, tv, L, rfl, hj, hS, hO, hne⟩ := hrel
            clear S1
            have S2 := Lib.hid (And.intro hS (And.intro hO hne))
            obtain ⟨As, cs, rfl, _, _⟩ := own_shape' hO
            clear hS hO hne
            by_cases hlt : (j : Int) < n1
            · obtain ⟨b1, off1, a1, rfl, f1, _, _, _⟩ := (R1.out _ S2.out.1.held j (by omega)).out
              go_wp2_with fail
              refine (frame_any a1 _).mono ?_
              rintro e w2 ⟨f, dst, fr, rfl, hfs, hfr, ⟨hf2, hto, hfr'⟩, k2⟩
              have S3 := Lib.hid (And.intro (S2.out.1.keep k2) (And.intro (Own.held S2.out.2.1 k2) S2.out.2.2))
              clear k2 f1 S2
              obtain ⟨b2, off2, a2, rfl, f2, ha1, ha2, hb2⟩ := (R2.out _ S3.out.1.held j (by omega)).out
              obtain ⟨A, cap, rfl, _, _⟩ := own_shape' S3.out.1.own
              obtain ⟨c0, c1, c2, c3⟩ := S3.out.1.cells
              have hrb := Mk.round_bd a2 P (by omega)
              obtain ⟨pt, hpt⟩ : ∃ pt, Mk.round a2 P = pt := ⟨_, rfl⟩
              rw [hpt] at hrb
              have HPT := Lib.hid hpt
              clear hpt
              have hfw := Lib.hid (forward_own P pt L f W.heap.size w2 _ S3.out.1.own S3.out.1.vs hf2 hfs (by omega) (by omega) dst fr hto hfr' (by omega))
              go_wp2_with (first | (go_at_call 8; refine (Mk.round_any _ _ (by omega) (by omega) (by omega) (by omega) _).mono ?_; rintro e w3 ⟨rfl, rfl⟩; rw [HPT.out]) | (go_at_call 9; refine hfw.out.mono ?_; rintro e w4 ⟨tv4, ov4, rfl, ho4, hO4, k4⟩; obtain ⟨A4, cap4, rfl, _, _⟩ := own_shape' ho4; obtain ⟨B4, d4, rfl, _, _⟩ := hO4.shape))
              have HR := Lib.hid (rn_start (o := .cells #[.int .u8 (fr : Int), .int .i64 pt] 35) S3.out.1 S3.out.2.1 ho4 hO4 k4 (learn_vs S3.out.1.vs fr pt (by omega) hrb.1 hrb.2))
              have HN := Lib.hid (own_first (w4.alloc (.cells #[.int .i64 P, .slice A4 (learnL L fr pt).length cap4] 26)) ⟨fr, pt⟩ (B := w4.heap.size + 1) (by simp))
              obtain ⟨wN, hwN⟩ : ∃ x, x = (w4.alloc (.cells #[.int .i64 P, .slice A4 (learnL L fr pt).length cap4] 26)).alloc (.cells #[.int .u8 (fr : Int), .int .i64 pt] 35) := ⟨_, rfl⟩
              rw [← hwN] at HR HN ⊢
              simp only [World.size_alloc] at HN
              have hl16 := S3.out.1.vs.len
              clear hwN ho4 hO4 k4 c0 c1 c2 c3 f2 hfw
              generalize w4.heap.size = bx at HR HN ⊢
              go_loopw [17, 18] (fun v k wr => ∃ q : Nat, k = .int .i64 q ∧ q ≤ L.length ∧ Own 35 2 lrC (bx + 1) wr v (⟨fr, pt⟩ :: (L.take q).filter fun x => decide (¬ x.a = fr)) ∧ Below (bx + 1) wN wr) (fun _ k _ => L.length - (intOf k).toNat)
              case atStart => exact ⟨0, rfl, Nat.zero_le _, HN.out, Below.refl _ _⟩
              case round =>
                obtain ⟨q, rfl, hq, hown, hbel⟩ := hrel
                have HB := Lib.hid (And.intro hown hbel)
                have HR2 := Lib.hid (HR.out.keep hbel)
                have hfl : ((L.take q).filter fun x => decide (¬ x.a = fr)).length ≤ 16 := Nat.le_trans (List.length_filter_le _ _) (by rw [List.length_take]; omega)
                have hsz := hbel.size
                have hN0 := HR.out.le
                by_cases hql : q < L.length
                · obtain ⟨b5, o5, x, rfl, hb5, hx5, hc5⟩ := (HR2.out.seen.reads lrC_len).1.at_ (Held.refl _) hql
                  have e0 := hc5 0 _ rfl
                  have e1 := hc5 1 _ rfl
                  rw [Nat.add_zero] at e0
                  have hxq : L[q] = x := by rw [List.getElem?_eq_getElem hql] at hx5; injection hx5
                  have hst := filt_next hql fr
                  rw [hxq] at hst
                  have hq2 : (q : Int) < L.length := by omega
                  clear hc5 hx5 hxq hbel
                  by_cases hxa : x.a = fr
                  · rw [if_pos hxa, List.append_nil] at hst
                    have HST := Lib.hid hst
                    have hne1 : ((x.a : Int) != fr) = false := by simp [hxa]
                    clear hst hown
                    go_wp2
                    go_roundw
                    case rel => exact ⟨q + 1, by go_num, by omega, by rw [HST.out]; exact HB.out.1, HB.out.2⟩
                    case measure => (simp [intOf]) <;> omega
                  · rw [if_neg hxa] at hst
                    have HST := Lib.hid hst
                    have hne1 : ((x.a : Int) != fr) = true := by simp; omega
                    clear hst
                    obtain ⟨xa, xp⟩ := x
                    obtain ⟨NL, hNL⟩ : ∃ NL, ((⟨fr, pt⟩ : Lr) :: (L.take q).filter fun x => decide (¬ x.a = fr)) = NL := ⟨_, rfl⟩
                    have HNL := Lib.hid hNL
                    have hNLl : NL.length ≤ 17 := by rw [← hNL, List.length_cons]; omega
                    rw [hNL] at hown
                    clear hNL
                    go_wp2_with (at_builtin; refine Own.app (f := lrC) _ rfl _ _ _ rfl _ 16 Try.underlying24 lr_info rfl (by decide) lrC_len lrC_one (bx + 1) _ NL (⟨xa, xp⟩ : Lr) ⟨wr.heap.size, 0, none⟩ 1 rfl (World.ownsRow.alloc hown _) rfl (news_lr _ (⟨xa, xp⟩ : Lr) _) (by omega) (by decide) (by simp only [World.size_alloc]; omega) ?_; intro g4 cp4 w9 hown4 hg4 hat4 hlt4)
                    go_roundw
                    case rel => exact ⟨q + 1, by go_num, by omega, by rw [HST.out, ← List.cons_append, HNL.out]; exact hown4, By.below_app HB.out.2 (by omega) HB.out.1 hg4⟩
                    case measure => (simp [intOf]) <;> omega
                · obtain rfl : q = L.length := by omega
                  rw [List.take_length] at HB
                  obtain ⟨An, cn, rfl, hcn, _⟩ := own_shape' HB.out.1
                  obtain ⟨NL, hNL⟩ : ∃ NL, ((⟨fr, pt⟩ : Lr) :: L.filter fun x => decide (¬ x.a = fr)) = NL := ⟨_, rfl⟩
                  rw [hNL] at HB hcn ⊢
                  obtain ⟨m, hm⟩ : ∃ m, m = min NL.length 16 := ⟨_, rfl⟩
                  have hM := own_take HB.out.1 hm
                  have hlen : NL.length ≤ 9223372036854775807 := by
                    have := (HB.out.1).cap
                    rw [← hNL, List.length_cons]
                    have hlf := List.length_filter_le (fun x : Lr => decide (¬ x.a = fr)) L
                    omega
                  have hLM : NL.take 16 = learnL L fr pt := by rw [← hNL]; rfl
                  rw [hLM] at hM
                  have hmM := (hM.reads lrC_len).2.1
                  have HM := Lib.hid (And.intro hM (And.intro HB.out.2 hmM))
                  clear HB hM hbel hown hNL hLM hmM HN HR
                  obtain ⟨w0, rfl⟩ : ∃ w0 : World, w0 = wr := ⟨_, rfl⟩
                  go_upto_region 19 with fail
                  go_cut [9] (fun v wx => v = .slice An m cn ∧ w0 = wx)
                  case first =>
                    by_cases h17 : (16 : Int) < NL.length
                    · go_wp2
                      go_meet
                      exact ⟨by rw [show m = 16 by omega], rfl⟩
                    · go_wp2
                      go_meet
                      exact ⟨by rw [show m = NL.length by omega], rfl⟩
                  case rest =>
                    obtain ⟨rfl, rfl⟩ := hcut
                    clear hcn hlen hsz
                    have hM16 := HR2.out.vs.len
                    have hmM : m = (learnL L fr pt).length := HM.out.2.2
                    clear hfl hl16
                    have HR3 := Lib.hid (And.intro HR2.out HM.out.1)
                    have hog := outs_good HR2.out.vs dst hrb.1 hrb.2
                    obtain ⟨M, hMd⟩ : ∃ M, learnL L fr pt = M := ⟨_, rfl⟩
                    rw [hMd] at HR3 hmM hog hM16 ⊢
                    obtain ⟨O, hOd⟩ : ∃ O, outs P pt M dst = O := ⟨_, rfl⟩
                    rw [hOd] at HR3 hog ⊢
                    clear hMd hOd HM HR2
                    subst hmM
                    have HOG := Lib.hid hog
                    clear hog hm
                    go_wp2
                    go_loop [19, 20] (fun t k => ∃ q : Nat, k = .int .i64 q ∧ q ≤ M.length ∧ t = .int .i64 (tgtF dst (-1) (M.take q))) (fun _ k => M.length - (intOf k).toNat)
                    case atStart => exact ⟨0, rfl, Nat.zero_le _, rfl⟩
                    case round =>
                      obtain ⟨q, rfl, hq, rfl⟩ := hrel
                      by_cases hqm : (q : Int) < M.length
                      · obtain ⟨b5, o5, x, rfl, hb5, hx5, hc5⟩ := (HR3.out.2.reads lrC_len).1.at_ (Held.refl _) (k := q) (by omega)
                        have e0 := hc5 0 _ rfl
                        have e1 := hc5 1 _ rfl
                        rw [Nat.add_zero] at e0
                        have hql : q < M.length := by omega
                        have hxq : M[q] = x := by rw [List.getElem?_eq_getElem hql] at hx5; injection hx5
                        have hst := tgt_next hql dst (-1)
                        rw [hxq] at hst
                        clear hc5 hx5 hxq
                        by_cases hxa : x.a = dst
                        · rw [if_pos hxa] at hst
                          have HST := Lib.hid hst
                          have hne1 : ((x.a : Int) == dst) = true := by simp [hxa]
                          clear hst
                          go_wp2
                          go_round
                          case rel => exact ⟨q + 1, by go_num, by omega, by rw [HST.out]⟩
                          case measure => (simp [intOf]) <;> omega
                        · rw [if_neg hxa] at hst
                          have HST := Lib.hid hst
                          have hne1 : ((x.a : Int) == dst) = false := by simp; omega
                          clear hst
                          go_wp2
                          go_round
                          case rel => exact ⟨q + 1, by go_num, by omega, by rw [HST.out]⟩
                          case measure => (simp [intOf]) <;> omega
                      · obtain rfl : q = M.length := by omega
                        rw [List.take_length]
                        obtain ⟨t, htd⟩ : ∃ t, tgtF dst (-1) M = t := ⟨_, rfl⟩
                        have htd' : tgt M dst = t := htd
                        have HO := HOG.out
                        rw [htd'] at HO
                        rw [htd]
                        clear HOG htd htd'
                        obtain ⟨hgood, hol, htb⟩ := HO
                        have HG := Lib.hid hgood
                        have HOL := Lib.hid hol
                        clear hgood hol
                        go_upto_if 127 with fail
                        go_cut [21] (fun v wx => v = .int .i64 (if 0 ≤ t then 1 else P - 1) ∧ w0 = wx)
                        case first =>
                          by_cases h0t : 0 ≤ t
                          · go_wp2
                            go_meet
                            exact ⟨by rw [if_pos h0t], rfl⟩
                          · go_wp2
                            go_meet
                            exact ⟨by rw [if_neg (by omega)], rfl⟩
                        case rest =>
                          obtain ⟨rfl, rfl⟩ := hcut
                          obtain ⟨mm, hmm⟩ : ∃ mm, (if 0 ≤ t then 1 else P - 1) = mm := ⟨_, rfl⟩
                          rw [hmm]
                          have HMM := Lib.hid hmm
                          clear hmm
                          go_upto_if 130 with fail
                          go_cut [21] (fun v wx => v = .int .i64 (if t = pt then 0 else mm) ∧ w0 = wx)
                          case first =>
                            by_cases hte : t = pt
                            · subst hte
                              go_wp2
                              go_meet
                              exact ⟨by simp, rfl⟩
                            · have hteb : (t == pt) = false := by simp [hte]
                              go_wp2
                              go_meet
                              exact ⟨by rw [if_neg hte], rfl⟩
                          case rest =>
                            obtain ⟨rfl, rfl⟩ := hcut
                            have hO8 : O.length ≤ 1000 := by
                              have hol := HOL.out
                              split at hol
                              · omega
                              · split at hol <;> omega
                            rw [← HMM.out, ← HOL.out]
                            clear HOL
                            go_wp2
                            go_loopw [22] (fun k wr => ∃ q : Nat, k = .int .i64 q ∧ q ≤ O.length ∧ Held w0 wr) (fun k _ => O.length - (intOf k).toNat)
                            case atStart => exact ⟨0, rfl, Nat.zero_le _, Held.refl _⟩
                            case round =>
                              obtain ⟨q, rfl, hq, hh⟩ := hrel
                              have HH := Lib.hid hh
                              by_cases hqo : q < O.length
                              · obtain ⟨b6, o6, y, rfl, _, hy6, hc6⟩ := (HR3.out.1.outp.reads intC_len).1.at_ hh (k := q) hqo
                                have e0 := hc6 0 _ rfl
                                rw [Nat.add_zero, Nat.mul_one] at e0
                                have hyq : O[q] = y := by rw [List.getElem?_eq_getElem hqo] at hy6; injection hy6
                                have g1 := HG.out.at_ q hqo
                                rw [hyq] at g1
                                obtain ⟨g1, g2, g3, g4⟩ := g1
                                have t1 : (y == pt) = false := by simp [g1]
                                have t3 : decide (y < 0) = false := by simp; omega
                                have t4 : decide (P ≤ y) = false := by simp; omega
                                have hqo2 : (q : Int) < O.length := by omega
                                have q0 : (0 : Int) ≤ q := by omega
                                clear hc6 hy6 hh g1
                                by_cases hq0 : q = 0
                                · have d1 : decide ((0 : Int) < q) = false := by simp; omega
                                  have d1n : decide (0 < q) = false := by simp; omega
                                  clear hq0
                                  by_cases h0t : 0 ≤ t
                                  · have t2 : (y != t) = false := by simp [g4 h0t]
                                    clear g4
                                    go_wp2
                                    go_big_quiet (fail)
                                    go_wp2
                                    go_roundw
                                    case rel => exact ⟨q + 1, by go_num, by omega, HH.out.drewN _⟩
                                    case measure => (simp [intOf]) <;> omega
                                  · have d2 : decide (0 ≤ t) = false := by simp; omega
                                    clear g4
                                    go_wp2
                                    go_big_quiet (fail)
                                    go_wp2
                                    go_roundw
                                    case rel => exact ⟨q + 1, by go_num, by omega, HH.out.drewN _⟩
                                    case measure => (simp [intOf]) <;> omega
                                · obtain ⟨q1, rfl⟩ : ∃ q1, q = q1 + 1 := ⟨q - 1, by omega⟩
                                  obtain ⟨b7, o7, y7, hba, _, hy7, hc7⟩ := (HR3.out.1.outp.reads intC_len).1.at_ HH.out (k := q1) (by omega)
                                  injection hba with hba
                                  injection hba with hb7 ho7
                                  subst hb7 ho7
                                  have f0 := hc7 0 _ rfl
                                  rw [Nat.add_zero, Nat.mul_one] at f0
                                  have hyq7 : O[q1]'(by omega) = y7 := by rw [List.getElem?_eq_getElem (by omega)] at hy7; injection hy7
                                  have hri := HG.out.rise q1 (by omega)
                                  rw [hyq7, hyq] at hri
                                  have hdl : decide (y ≤ y7) = false := by simp; omega
                                  have k1 : (0 : Int) ≤ ↑q1 + 1 := by omega
                                  have k2 : (↑q1 + 1 : Int) < O.length := by omega
                                  have k4 : (0 : Int) < ↑q1 + 1 := by omega
                                  have k6 : (0 : Int) ≤ ↑q1 := by omega
                                  have k7 : (↑q1 : Int) < O.length := by omega
                                  have k5 : IntKind.i64.wrap ((q1 : Int) + 1 - 1) = q1 := by rw [Int.add_sub_cancel]; exact IntWalk.i64_in _ (by omega)
                                  have k8 : IntKind.i64.wrap (q1 : Int) = q1 := IntWalk.i64_in _ (by omega)
                                  have k3 : ((q1 : Int) + 1).toNat = q1 + 1 := by omega
                                  clear hc7 hy7 hyq7 hq0 hri hyq
                                  by_cases h0t : 0 ≤ t
                                  · have t2 : (y != t) = false := by simp [g4 h0t]
                                    clear g4
                                    go_wp2
                                    go_big_quiet (fail)
                                    go_wp2
                                    go_roundw
                                    clear k5 k3 k8
                                    case rel => exact ⟨q1 + 1 + 1, by go_num, by omega, HH.out.drewN _⟩
                                    case measure => (simp [intOf]) <;> omega
                                  · have d2 : decide (0 ≤ t) = false := by simp; omega
                                    clear g4
                                    go_wp2
                                    go_big_quiet (fail)
                                    go_wp2
                                    go_roundw
                                    clear k5 k3 k8
                                    case rel => exact ⟨q1 + 1 + 1, by go_num, by omega, HH.out.drewN _⟩
                                    case measure => (simp [intOf]) <;> omega
                              · have HR4 := Lib.hid (And.intro (HR3.out.1.keep (Below.mono hh HR3.out.1.le)) (own_below HR3.out.2 (fun g hg => (World.ownsRow.lt HR3.out.2 g hg).2) hh))
                                clear hh
                                obtain ⟨c0, c1, c2, c3⟩ := HR4.out.1.sw.cells
                                have d0 := box_cell HR4.out.1.box 0 rfl
                                have d1 := box_cell HR4.out.1.box 1 rfl
                                have HP := Lib.hid (rn_put HR4.out.1 (bx + 1) _ HR4.out.2 HR4.out.1.low.1 HR4.out.1.leW)
                                have hlt9 := HP.out.1.lt
                                have hrd := HP.out.1.own.reads lrC_len
                                have hvl := Lib.hid (valid_yes P A4 M.length cap4 M _ hrd.1 hrd.2.2 HP.out.1.vs)
                                clear hrd
                                go_wp2_with (go_at_call 10; refine hvl.out.mono ?_; rintro e w9 ⟨rfl, h9⟩; have H9 := Lib.hid (And.intro (HP.out.1.keep h9) (And.intro (Own.held HP.out.2.1 h9) HP.out.2.2)); clear h9; obtain ⟨z0, z1, z2, z3⟩ := H9.out.1.cells)
                                go_roundw
                                case rel => exact ⟨j + 1, _, _, by go_num, by omega, H9.out.1, H9.out.2.1, H9.out.2.2⟩
                                case measure => (simp [intOf]) <;> omega
            · go_wp2_with (go_at_call 5; refine (awake_any _).mono ?_; rintro e w1 ⟨rfl, hh⟩)
              go_ret
              exact ⟨rfl, S2.out.1.held.step hh⟩
end Net
end Go.Proofs.Ytnmhmjcpiijkcaa
