/-
  Contracts: Push of the program (chapter 24).
  Contracts: vmfleetplan.Segment: a valid segment from a position on (chapter 24).
  Contracts: vmfleetplan.Segments: valid segments that follow each other (chapter 24).
  Contracts of slices.Delete at []api.Segment that the call itself made (printed by mkslc.py).
  Contracts: Acked of the program (chapter 24).
-/
import Derived.Test.YthpjbffhdaaibaaGreatZ10
import Derived.Test.YthpjbffhdaaibaaGreatZ3
import Derived.Test.YthpjbffhdaaibaaGreatZ8
import Derived.Test.YthpjbffhdaaibaaGreatProg
import Derived.WalkSpells
import Derived.WalkLawsBesides
import Derived.Deep.RegionHeld3
import Derived.Outline
import Derived.Lib.SliceRun
set_option linter.unusedVariables false
set_option linter.unusedSimpArgs false
set_option maxRecDepth 100000
namespace Go.Proofs.YthpjbffhdaaibaaGreat
open Go.RowKit Go.BigFrame Go.Sort Go.Lib
namespace Mem
/-- A whole struct is stored into a box. -/
theorem put4 {W w : World} {H : List Ck} (h : Mem W w H) (i : Nat) {b : Nat} {a0 a1 a2 a3 : Value} {t : TypeId} (hi : H[i]? = some (.box b #[a0, a1, a2, a3] t)) (x0 x1 x2 x3 : Value) :
    Mem W ((((w.setCell ⟨b, 0, none⟩ x0).setCell ⟨b, 1, none⟩ x1).setCell ⟨b, 2, none⟩ x2).setCell ⟨b, 3, none⟩ x3) (H.set i (.box b #[x0, x1, x2, x3] t)) := by
  have hl : i < H.length := (List.getElem?_eq_some_iff.1 hi).1
  have g : ∀ (c : Ck), (H.set i c)[i]? = some c := fun c => by rw [List.getElem?_set]; simp [hl]
  have h1 := h.put i hi 0 x0
  have h2 := h1.put i (g _) 1 x1
  rw [List.set_set] at h2
  have h3 := h2.put i (g _) 2 x2
  rw [List.set_set] at h3
  have h4 := h3.put i (g _) 3 x3
  rw [List.set_set] at h4
  exact h4
theorem put3 {W w : World} {H : List Ck} (h : Mem W w H) (i : Nat) {b : Nat} {a0 a1 a2 : Value} {t : TypeId} (hi : H[i]? = some (.box b #[a0, a1, a2] t)) (x0 x1 x2 : Value) :
    Mem W (((w.setCell ⟨b, 0, none⟩ x0).setCell ⟨b, 1, none⟩ x1).setCell ⟨b, 2, none⟩ x2) (H.set i (.box b #[x0, x1, x2] t)) := by
  have hl : i < H.length := (List.getElem?_eq_some_iff.1 hi).1
  have g : ∀ (c : Ck), (H.set i c)[i]? = some c := fun c => by rw [List.getElem?_set]; simp [hl]
  have h1 := h.put i hi 0 x0
  have h2 := h1.put i (g _) 1 x1
  rw [List.set_set] at h2
  have h3 := h2.put i (g _) 2 x2
  rw [List.set_set] at h3
  exact h3
end Mem
namespace St
open Enc Uv Lg Lgc Strs
/-- A store into a block that is no entry's. -/
structure Blk (B : Nat) (w : World) (b : Nat) : Prop where
  ge : B ≤ b
  at_ : ∃ cs T z, w.heap[b]? = some (.cells cs T z) ∧ T ≠ 70
theorem Blk.put {B b j : Nat} {w : World} {v : Value} (h : Blk B w b) : Blk B (w.setCell ⟨b, j, none⟩ v) b := by
  obtain ⟨cs, T, z, q, hT⟩ := h.at_
  refine ⟨h.ge, cs.setIfInBounds j v, T, z, ?_, hT⟩
  simp only [World.setCell]
  rw [Array.getElem?_modify, if_pos rfl, q]; rfl
theorem Blk.chg {B b : Nat} {w : World} (h : Blk B w b) (j : Nat) (v : Value) : Chg 70 B w (w.setCell ⟨b, j, none⟩ v) (some b) := by
  obtain ⟨cs, T, z, q, hT⟩ := h.at_
  exact Chg.put q hT h.ge j v
theorem Blk.of {B : Nat} {W w : World} {H : List Ck} (h : Mem W w H) (i : Nat) {b : Nat} {cs : Array Value} {t : TypeId} (hi : H[i]? = some (.box b cs t)) (hT : t ≠ 70) (hB : B ≤ W.heap.size) : Blk B w b :=
  ⟨Nat.le_trans hB (h.geb i hi), cs, t, _, h.blk i hi, hT⟩
theorem Sgs.put1 {B b : Nat} {w : World} {R : List SR} (h : Sgs B w R) (k : Blk B w b) (j : Nat) (v : Value) : Sgs B (w.setCell ⟨b, j, none⟩ v) R := h.chg (k.chg j v)
theorem Sgs.put4 {B b : Nat} {w : World} {R : List SR} (h : Sgs B w R) (k : Blk B w b) (x0 x1 x2 x3 : Value) : Sgs B ((((w.setCell ⟨b, 0, none⟩ x0).setCell ⟨b, 1, none⟩ x1).setCell ⟨b, 2, none⟩ x2).setCell ⟨b, 3, none⟩ x3) R :=
  (((h.put1 k 0 x0).put1 k.put 1 x1).put1 k.put.put 2 x2).put1 k.put.put.put 3 x3
theorem Ers.put1 {B b : Nat} {w : World} {R : List ErR} (h : Ers B w R) (k : Blk B w b) (j : Nat) (v : Value) : Ers B (w.setCell ⟨b, j, none⟩ v) R := h.chg (k.chg j v)
theorem Ers.put3 {B b : Nat} {w : World} {R : List ErR} (h : Ers B w R) (k : Blk B w b) (x0 x1 x2 : Value) : Ers B (((w.setCell ⟨b, 0, none⟩ x0).setCell ⟨b, 1, none⟩ x1).setCell ⟨b, 2, none⟩ x2) R :=
  ((h.put1 k 0 x0).put1 k.put 1 x1).put1 k.put.put 2 x2
/-- A call hands back a sender of its own and a word. -/
def SndX (B : Nat) (S : Snd) (x : Value) (w : World) (e : Ending) (w' : World) : Prop := ∃ A n cap, e = .returned (.tuple #[.agg #[.int .u64 S.b, .int .u64 S.t, .int .u64 S.kn, .slice A n cap], x]) ∧ OwnQ B w w' (.slice A n cap) S.q ∧ Held w w'
theorem SndX.mk {B b t kn : Nat} {S : Snd} {x x' : Value} {w w' : World} {A : Option Addr} {n cap : Nat} {R : List SR} (hS : S = ⟨b, t, kn, gs R⟩) (hx : x' = x) (ho : Own 25 3 segC w.heap.size w' (.slice A n cap) R) (hs : Sgs B w' R) (k : Held w w') :
    SndX B S x w (.returned (.tuple #[.agg #[.int .u64 b, .int .u64 t, .int .u64 kn, .slice A n cap], x'])) w' := by
  subst hS hx; exact ⟨A, n, cap, rfl, ⟨R, rfl, ho, hs⟩, k⟩
set_option maxHeartbeats 2000000 in
theorem push_any (b t kn : Nat) (A : Option Addr) (n cap : Nat) (L : List SR) (f gk : Nat) (GA : Option Addr) (gn gc : Nat) (es : List Ent) (B : Nat) (w : World) (hB : B ≤ w.heap.size) (h : Sl 3 segC w A n L) (hg : Sgs B w L) (hn : n ≤ 1000000) (hs : Sg B w ⟨f, gk, GA, gn, gc, es⟩) :
    Calls Tryz.prog 22 #[.agg #[.int .u64 b, .int .u64 t, .int .u64 kn, .slice A n cap], .agg #[.int .u64 f, .int .u64 gk, .slice GA gn gc]] w (SndX B (push ⟨b, t, kn, gs L⟩ ⟨f, gk, es⟩).1 (.int .i64 (push ⟨b, t, kn, gs L⟩ ⟨f, gk, es⟩).2) w) := by
  have HS := Lib.hid h
  have HG := Lib.hid hg
  have HSG := Lib.hid hs
  have HL : Is L.length n := ⟨h.1⟩
  have HBB := Lib.hid hB
  have hn2 : (n : Int) ≤ 1000000 := by omega
  have hql : (gs L).length = n := by rw [gs_len]; exact h.1
  have HP : Is (push ⟨b, t, kn, gs L⟩ ⟨f, gk, es⟩) (if (decide (f ≠ t) || !sending ⟨b, t, kn, gs L⟩) = true then (⟨b, t, kn, gs L⟩, 2400) else if (logOf ⟨f, gk, es⟩).2 ≠ 0 then (⟨b, t, kn, gs L⟩, (logOf ⟨f, gk, es⟩).2) else if 8 ≤ n then (⟨b, t, kn, gs L⟩, 2401) else (⟨b, gk, kn, gs L ++ [⟨f, gk, es⟩]⟩, 0)) := ⟨by rw [← hql]; rfl⟩
  obtain ⟨p, hp⟩ : ∃ p, push ⟨b, t, kn, gs L⟩ ⟨f, gk, es⟩ = p := ⟨_, rfl⟩
  obtain ⟨sv, hsv⟩ : ∃ sv, sending ⟨b, t, kn, gs L⟩ = sv := ⟨_, rfl⟩
  obtain ⟨lo, hlo⟩ : ∃ lo, logOf ⟨f, gk, es⟩ = lo := ⟨_, rfl⟩
  have M0 : Hid (Mem w (((w.alloc (.cells #[.int .u64 b, .int .u64 t, .int .u64 kn, .slice A n cap] 28)).alloc (.cells #[.int .u64 f, .int .u64 gk, .slice GA gn gc] 25)).alloc (.cells #[.int .u64 0, .int .u64 0, .int .u64 0, .slice none 0 0] 28)) [.box w.heap.size #[.int .u64 b, .int .u64 t, .int .u64 kn, .slice A n cap] 28, .box (w.heap.size + 1) #[.int .u64 f, .int .u64 gk, .slice GA gn gc] 25, .box (w.heap.size + 1 + 1) #[.int .u64 0, .int .u64 0, .int .u64 0, .slice none 0 0] 28]) :=
    (((Mem.start w).alloc' (b := w.heap.size) rfl _ _).alloc' (b := w.heap.size + 1) (by simp) _ _).alloc' (b := w.heap.size + 1 + 1) (by simp) _ _
  obtain ⟨w1, hw1⟩ : ∃ w1, (((w.alloc (.cells #[.int .u64 b, .int .u64 t, .int .u64 kn, .slice A n cap] 28)).alloc (.cells #[.int .u64 f, .int .u64 gk, .slice GA gn gc] 25)).alloc (.cells #[.int .u64 0, .int .u64 0, .int .u64 0, .slice none 0 0] 28)) = w1 := ⟨_, rfl⟩
  have HW1 := Lib.hid hw1
  rw [hw1] at M0
  rw [hp, hsv, hlo] at HP
  rw [hp]
  have HCP := Lib.hid (copySender_any b t kn A n cap L B w1 (Nat.le_trans hB M0.out.held.le) (h.held M0.out.held) (hg.held M0.out.held) hn)
  have HSN := Lib.hid fun (w' : World) (k : Held w w') => sending_any b t kn A n cap L B w' (h.held k) (hg.held k) hn
  have HLO := Lib.hid fun (w' : World) (k : Held w w') => log_any f gk GA gn gc es B w' (hs.held k)
  have HCS := Lib.hid fun (w' : World) (k : Held w w') => copy_any f gk GA gn gc es B w' (hs.held k)
  rw [hsv] at HSN
  rw [hlo] at HLO
  clear hp hsv hlo hw1 h hg hs hB hql
  obtain ⟨⟨c0, c1, c2, c3⟩, _, hl0⟩ := M0.out.box4 0 rfl
  go_enter Tryz.func22, Tryz.ntmps22
  go_wp2_with fail
  rw [HW1.out]
  refine HCP.out.mono ?_
  rintro e w2 ⟨A2, n2, cap2, rfl, ⟨R, hR, oR, sR⟩, h2⟩
  dsimp only at hR ⊢
  have hRl : R.length = n := by have := congrArg List.length hR; rw [gs_len, gs_len, HL.out] at this; exact this
  obtain rfl : n2 = n := by rw [← hRl]; exact (Own.reads segC_len oR).2.1
  have HRL : Is R.length n2 := ⟨hRl⟩
  have HR := Lib.hid hR
  have M2 := Lib.hid ((M0.out.own h2 oR).alloc #[.int .u64 b, .int .u64 t, .int .u64 kn, .slice A2 n2 cap2] 28)
  have S2 := Lib.hid (sR.held ((Held.refl w2).alloc (.cells #[.int .u64 b, .int .u64 t, .int .u64 kn, .slice A2 n2 cap2] 28)))
  clear hR oR sR h2 HCP HW1 M0 c0 c1 c2 c3 hl0 hRl
  obtain ⟨⟨a0, a1, a2, a3⟩, _, hla⟩ := M2.out.box4 0 rfl
  obtain ⟨⟨b0, b1, b2⟩, _, hlb⟩ := M2.out.box3 1 rfl
  by_cases t1 : ¬ f = t
  · have t1b : ((f : Int) == t) = false := by rw [beq_eq_false_iff_ne]; omega
    have t1c : (f == t) = false := by rw [beq_eq_false_iff_ne]; exact t1
    have HP2 : Is p (⟨b, t, kn, gs L⟩, 2400) := ⟨by rw [HP.out, if_pos (by simp [t1])]⟩
    clear HP
    obtain ⟨⟨c0, c1, c2, c3⟩, ⟨f0, f1, f2, f3⟩, hl0⟩ := M2.out.box4 2 rfl
    obtain ⟨⟨d0, d1, d2, d3⟩, _, hl1⟩ := M2.out.box4 4 rfl
    have hn02 : ¬ w.heap.size + 1 + 1 = w2.heap.size := M2.out.ne 2 4 rfl rfl (by decide)
    have hn20 : ¬ w2.heap.size = w.heap.size + 1 + 1 := fun e => hn02 e.symm
    go_wp2
    have MF := M2.out.put4 2 rfl (.int .u64 b) (.int .u64 t) (.int .u64 kn) (.slice A2 n2 cap2)
    refine bodyPost_ret (Bx.res_ct Tryz.results22 rfl (snd_load (MF.blk 2 rfl))) rfl ?_
    exact SndX.mk (by rw [HP2.out, HR.out]) (by rw [HP2.out]; rfl) (MF.row 3 rfl) (S2.out.put4 (Blk.of M2.out 2 rfl (by decide) HBB.out) _ _ _ _) MF.held
  have t1 := Decidable.not_not.1 t1
  subst t1
  have HP1 : Is p (if sv = false then (⟨b, f, kn, gs L⟩, 2400) else if lo.2 ≠ 0 then (⟨b, f, kn, gs L⟩, lo.2) else if 8 ≤ n2 then (⟨b, f, kn, gs L⟩, 2401) else (⟨b, gk, kn, gs L ++ [⟨f, gk, es⟩]⟩, 0)) := ⟨by rw [HP.out]; cases sv <;> simp⟩
  clear HP
  go_wp2_with fail
  refine (HSN.out _ M2.out.held).mono ?_
  rintro e w3 ⟨rfl, h3⟩
  have M3 := Lib.hid (M2.out.keep h3)
  have S3 := Lib.hid (S2.out.held h3)
  clear h3 HSN M2 S2 a0 a1 a2 a3 hla b0 b1 b2 hlb
  obtain ⟨⟨a0, a1, a2, a3⟩, _, hla⟩ := M3.out.box4 0 rfl
  obtain ⟨⟨b0, b1, b2⟩, _, hlb⟩ := M3.out.box3 1 rfl
  cases sv
  · have HP2 : Is p (⟨b, f, kn, gs L⟩, 2400) := ⟨HP1.out⟩
    clear HP1
    obtain ⟨⟨c0, c1, c2, c3⟩, ⟨f0, f1, f2, f3⟩, hl0⟩ := M3.out.box4 2 rfl
    obtain ⟨⟨d0, d1, d2, d3⟩, _, hl1⟩ := M3.out.box4 4 rfl
    have hn02 : ¬ w.heap.size + 1 + 1 = w2.heap.size := M3.out.ne 2 4 rfl rfl (by decide)
    have hn20 : ¬ w2.heap.size = w.heap.size + 1 + 1 := fun e => hn02 e.symm
    go_wp2
    have MF := M3.out.put4 2 rfl (.int .u64 b) (.int .u64 f) (.int .u64 kn) (.slice A2 n2 cap2)
    refine bodyPost_ret (Bx.res_ct Tryz.results22 rfl (snd_load (MF.blk 2 rfl))) rfl ?_
    exact SndX.mk (by rw [HP2.out, HR.out]) (by rw [HP2.out]; rfl) (MF.row 3 rfl) (S3.out.put4 (Blk.of M3.out 2 rfl (by decide) HBB.out) _ _ _ _) MF.held
  have HP3 : Is p (if lo.2 ≠ 0 then (⟨b, f, kn, gs L⟩, lo.2) else if 8 ≤ n2 then (⟨b, f, kn, gs L⟩, 2401) else (⟨b, gk, kn, gs L ++ [⟨f, gk, es⟩]⟩, 0)) := ⟨HP1.out⟩
  clear HP1
  go_wp2_with fail
  refine (HLO.out _ M3.out.held).mono ?_
  rintro e w4 ⟨rfl, h4⟩
  have M4 := Lib.hid (M3.out.keep h4)
  have S4 := Lib.hid (S3.out.held h4)
  clear h4 HLO M3 S3 a0 a1 a2 a3 hla b0 b1 b2 hlb
  obtain ⟨⟨a0, a1, a2, a3⟩, _, hla⟩ := M4.out.box4 0 rfl
  obtain ⟨⟨b0, b1, b2⟩, _, hlb⟩ := M4.out.box3 1 rfl
  obtain ⟨ls, lc⟩ := lo
  dsimp only at HP3 ⊢
  by_cases hc : ¬ lc = 0
  · have hcb : (lc == 0) = false := by rw [beq_eq_false_iff_ne]; exact hc
    have HP2 : Is p (⟨b, f, kn, gs L⟩, lc) := ⟨by rw [HP3.out, if_pos hc]⟩
    clear HP3
    obtain ⟨⟨c0, c1, c2, c3⟩, ⟨f0, f1, f2, f3⟩, hl0⟩ := M4.out.box4 2 rfl
    obtain ⟨⟨d0, d1, d2, d3⟩, _, hl1⟩ := M4.out.box4 4 rfl
    have hn02 : ¬ w.heap.size + 1 + 1 = w2.heap.size := M4.out.ne 2 4 rfl rfl (by decide)
    have hn20 : ¬ w2.heap.size = w.heap.size + 1 + 1 := fun e => hn02 e.symm
    go_wp2
    have MF := M4.out.put4 2 rfl (.int .u64 b) (.int .u64 f) (.int .u64 kn) (.slice A2 n2 cap2)
    refine bodyPost_ret (Bx.res_ct Tryz.results22 rfl (snd_load (MF.blk 2 rfl))) rfl ?_
    exact SndX.mk (by rw [HP2.out, HR.out]) (by rw [HP2.out]; rfl) (MF.row 3 rfl) (S4.out.put4 (Blk.of M4.out 2 rfl (by decide) HBB.out) _ _ _ _) MF.held
  have hc := Decidable.not_not.1 hc
  subst hc
  have HP4 : Is p (if 8 ≤ n2 then (⟨b, f, kn, gs L⟩, 2401) else (⟨b, gk, kn, gs L ++ [⟨f, gk, es⟩]⟩, 0)) := ⟨by rw [HP3.out, if_neg (by simp)]⟩
  clear HP3
  by_cases h8 : (8 : Int) ≤ n2
  · have HP2 : Is p (⟨b, f, kn, gs L⟩, 2401) := ⟨by rw [HP4.out, if_pos (by omega)]⟩
    clear HP4
    obtain ⟨⟨c0, c1, c2, c3⟩, ⟨f0, f1, f2, f3⟩, hl0⟩ := M4.out.box4 2 rfl
    obtain ⟨⟨d0, d1, d2, d3⟩, _, hl1⟩ := M4.out.box4 4 rfl
    have hn02 : ¬ w.heap.size + 1 + 1 = w2.heap.size := M4.out.ne 2 4 rfl rfl (by decide)
    have hn20 : ¬ w2.heap.size = w.heap.size + 1 + 1 := fun e => hn02 e.symm
    go_wp2
    have MF := M4.out.put4 2 rfl (.int .u64 b) (.int .u64 f) (.int .u64 kn) (.slice A2 n2 cap2)
    refine bodyPost_ret (Bx.res_ct Tryz.results22 rfl (snd_load (MF.blk 2 rfl))) rfl ?_
    exact SndX.mk (by rw [HP2.out, HR.out]) (by rw [HP2.out]; rfl) (MF.row 3 rfl) (S4.out.put4 (Blk.of M4.out 2 rfl (by decide) HBB.out) _ _ _ _) MF.held
  have HP2 : Is p (⟨b, gk, kn, gs L ++ [⟨f, gk, es⟩]⟩, 0) := ⟨by rw [HP4.out, if_neg (by omega)]⟩
  clear HP4
  obtain ⟨⟨d0, d1, d2, d3⟩, _, hl1⟩ := M4.out.box4 4 rfl
  go_wp2
  go_region_law (first
    | (refine Mem.step_appC M5b.out 3 rfl (by rfl) _ _ _ (by rfl) _ 40 Tryz.underlying26 info_seg (by rfl) (by decide) segC_len segC_one ⟨f, gk, A3, n3, cap3, es⟩ ⟨w5.heap.size, 0, none⟩ 1 (by rfl) (by rfl) (cells_new _ rfl _ _) n2 HRL.out (by omega) (by decide) ?_; intro g4 cp4 w6 M6' k6; have M6 := Lib.hid M6'; have K6 := Lib.hid k6; obtain ⟨⟨r0, r1, r2, r3⟩, ⟨rf0, rf1, rf2, rf3⟩, rl⟩ := M6'.box4 4 rfl; clear M6' k6)
    | (go_simp; go_at_call 54; refine (HCS.out _ M4.out.held.drew).mono ?_; rintro e w5 ⟨A3, n3, cap3, rfl, hs3, h3⟩; dsimp only at hs3 ⊢; have M5 := Lib.hid ((M4.out.drew.keep h3)); have M5b := Lib.hid (M5.out.skip (.cells #[.int .u64 f, .int .u64 gk, .slice A3 n3 cap3] 25)); have S5 := Lib.hid ((hs3 B).held ((Held.refl w5).alloc (.cells #[.int .u64 f, .int .u64 gk, .slice A3 n3 cap3] 25))); have R5 := Lib.hid (S4.out.held (((Held.refl w4).drew.step h3).alloc (.cells #[.int .u64 f, .int .u64 gk, .slice A3 n3 cap3] 25))); obtain ⟨⟨p0, p1, p2, p3⟩, ⟨pf0, pf1, pf2, pf3⟩, pl⟩ := M5.out.box4 4 rfl; obtain ⟨⟨q0, q1, q2, q3⟩, ⟨qf0, qf1, qf2, qf3⟩, ql⟩ := M5b.out.box4 4 rfl; clear hs3 h3))
  all_goals
    have kk := K6.out 70 B (by decide) HBB.out
    have S6 := Lib.hid ((R5.out.chg kk).snoc (S5.out.chg kk))
    have MA := Lib.hid (M6.out.put 4 rfl 3 (.slice (some ⟨g4, 0, none⟩) (n2 + 1) cp4))
    have MB := Lib.hid (MA.out.put 4 rfl 1 (.int .u64 gk))
    have SA := Lib.hid (S6.out.put1 (Blk.of M6.out 4 rfl (by decide) HBB.out) 3 (.slice (some ⟨g4, 0, none⟩) (n2 + 1) cp4))
    have SB := Lib.hid (SA.out.put1 (Blk.of MA.out 4 rfl (by decide) HBB.out) 1 (.int .u64 gk))
    clear p0 p1 p2 p3 pf0 pf1 pf2 pf3 pl q0 q1 q2 q3 qf0 qf1 qf2 qf3 ql r0 r1 r2 r3 rf0 rf1 rf2 rf3 rl a0 a1 a2 a3 hla b0 b1 b2 hlb d0 d1 d2 d3 hl1 kk K6 S5 R5 M5 M5b S6
    obtain ⟨⟨b0, b1, b2⟩, _, hlb⟩ := MA.out.box3 1 rfl
    obtain ⟨⟨c0, c1, c2, c3⟩, ⟨f0, f1, f2, f3⟩, hl0⟩ := MA.out.box4 2 rfl
    obtain ⟨⟨d0, d1, d2, d3⟩, ⟨g0, g1, g2, g3⟩, hl1⟩ := MA.out.box4 4 rfl
    have hn02 : ¬ w.heap.size + 1 + 1 = w2.heap.size := MA.out.ne 2 4 rfl rfl (by decide)
    have hn20 : ¬ w2.heap.size = w.heap.size + 1 + 1 := fun e => hn02 e.symm
    have hn12 : ¬ w.heap.size + 1 = w2.heap.size := MA.out.ne 1 4 rfl rfl (by decide)
    have hn21 : ¬ w2.heap.size = w.heap.size + 1 := fun e => hn12 e.symm
    go_wp2
    have MF := MB.out.put4 2 rfl (.int .u64 b) (.int .u64 gk) (.int .u64 kn) (.slice (some ⟨g4, 0, none⟩) (n2 + 1) cp4)
    refine bodyPost_ret (Bx.res_ct Tryz.results22 rfl (snd_load (MF.blk 2 rfl))) rfl ?_
    exact SndX.mk (by rw [HP2.out]; unfold gs at HR ⊢; rw [List.map_append, HR.out]; rfl) (by rw [HP2.out]; rfl) (MF.row 3 rfl) (SB.out.put4 (Blk.of MB.out 2 rfl (by decide) HBB.out) _ _ _ _) MF.held
end St
end Go.Proofs.YthpjbffhdaaibaaGreat

set_option linter.unusedVariables false
set_option linter.unusedSimpArgs false
set_option maxRecDepth 100000
namespace Go.Proofs.YthpjbffhdaaibaaGreat
open Go.RowKit Go.BigFrame Go.Sort Go.Lib
namespace St
open Enc Uv Lg Lgc Strs
theorem ordTo_app {L M : List Ent} : ∀ {k : Nat}, k < L.length → ordTo (L ++ M) k = ordTo L k
  | 0, _ => rfl
  | k + 1, h => by
    rw [ordTo, ordTo, ordTo_app (k := k) (by omega), List.getElem?_append_left (by omega), List.getElem?_append_left h]
theorem ord_snoc {L : List Ent} {x : Ent} (h : ord L = true) (hl : ∀ y, L.getLast? = some y → adj y x = false) : ord (L ++ [x]) = true := by
  unfold ord
  rw [List.length_append, List.length_singleton, Nat.add_sub_cancel]
  cases hL : L.length with
  | zero => rfl
  | succ k =>
    have hlt : k < L.length := by omega
    have h2 : ordTo (L ++ [x]) k = true := by
      rw [ordTo_app hlt]
      unfold ord at h
      rw [hL] at h
      exact h
    rw [ordTo, h2, List.getElem?_append_left hlt, List.getElem?_append_right (by omega), hL, Nat.sub_self, List.getElem?_eq_getElem hlt]
    have h3 := hl L[k] (by rw [List.getLast?_eq_getElem?, hL]; exact List.getElem?_eq_getElem hlt)
    simp [h3]
/-- A segment in the making. -/
structure Pl (at_ kn : Nat) (es : List Ent) (p : Nat) : Prop where
  ok : ∀ x ∈ es, EntOK x ∧ okX x = true ∧ at_ ≤ x.t ∧ x.t ≤ kn
  ord : ord es = true
  last : ∀ x, es.getLast? = some x → x.t ≤ p ∧ (x.t = p → x.k ≠ 1)
  p1 : at_ ≤ p
  p2 : p ≤ kn
theorem Pl.start {at_ kn : Nat} (h : at_ ≤ kn) : Pl at_ kn [] at_ := ⟨fun x hx => by simp at hx, rfl, fun x hx => by simp at hx, Nat.le_refl _, h⟩
theorem Pl.step {at_ kn p p' : Nat} {es : List Ent} (h : Pl at_ kn es p) {x : Ent} (hx : EntOK x) (hk : okX x = true) (ht : x.t = p) (h1 : p ≤ p') (h2 : p' ≤ kn) (h3 : x.k = 1 → p < p') : Pl at_ kn (es ++ [x]) p' := by
  refine ⟨fun y hy => ?_, ord_snoc h.ord fun y hy => ?_, fun y hy => ?_, Nat.le_trans h.p1 h1, h2⟩
  · rcases List.mem_append.1 hy with hy | hy
    · exact h.ok y hy
    · rw [List.mem_singleton] at hy
      subst hy
      exact ⟨hx, hk, by rw [ht]; exact h.p1, by rw [ht]; exact h.p2⟩
  · obtain ⟨q1, q2⟩ := h.last y hy
    unfold adj
    by_cases e : y.t = p
    · have := q2 e
      simp [ht, e, this]
    · have e2 : ¬ p = y.t := fun q => e q.symm
      simp [ht, e2]; omega
  · rw [List.getLast?_concat] at hy
    injection hy with hy
    subst hy
    exact ⟨by omega, fun e q => by have := h3 q; omega⟩
theorem Pl.fin {at_ kn p : Nat} {es : List Ent} (h : Pl at_ kn es p) (hl : es.length ≤ 10) (hk : kn < 18446744073709551616) : segOk ⟨at_, kn, es⟩ = true ∧ SegIn ⟨at_, kn, es⟩ := by
  have h1 := h.p1
  have h2 := h.p2
  refine ⟨?_, ⟨by simp only; omega, hk, fun e he => (h.ok e he).1⟩⟩
  unfold segOk
  refine decide_eq_true ?_
  have hle := encF_len (L := es) (fun x hx => ⟨(h.ok x hx).1, (h.ok x hx).2.1⟩) at_
  have hpl := put_len es.length (by omega)
  have he : encode es at_ = (put es.length ++ encF at_ es, 0) := by
    unfold encode
    rw [if_neg (by omega), if_neg, if_neg, if_neg]
    · rw [List.length_append]; omega
    · rw [h.ord]
      unfold Enc.early
      split
      · rename_i x hx
        have := (h.ok x (List.mem_of_getElem? hx)).2.2.1
        simp; omega
      · simp
    · have : es.all okX = true := by rw [List.all_eq_true]; exact fun x hx => (h.ok x hx).2.1
      rw [this]; simp
  rw [logOf_mk (g := ⟨at_, kn, es⟩) (by simp only; omega) ?_ he]
  unfold late
  rw [List.any_eq_false]
  intro x hx
  have := (h.ok x hx).2.2.2
  simp; omega
/-- A call hands back a valid segment of its own. -/
def PlanTo (at_ : Nat) (w : World) (e : Ending) (w' : World) : Prop := ∃ kn es A n cap, e = .returned (.agg #[.int .u64 at_, .int .u64 (kn : Nat), .slice A n cap]) ∧ segOk ⟨at_, kn, es⟩ = true ∧ SegIn ⟨at_, kn, es⟩ ∧ kn ≤ at_ + 6 ∧ (∀ B, Sg B w' ⟨at_, kn, A, n, cap, es⟩) ∧ Held w w'
theorem ev_store {w : World} {b : Nat} {v0 v1 v2 : Value} (h : w.heap[b]? = some (.cells #[v0, v1, v2] 68 (0, 0))) : (loadVar 68 ⟨b, 0, none⟩).run Tryz.prog w = .ok (.agg #[v0, v1, v2]) w := by
  have c0 := Bx.cell h 0 rfl
  have c1 := Bx.cell h 1 rfl
  have c2 := Bx.cell h 2 rfl
  simp [go_sem, c0, c1, c2]
theorem tdiv7_bd {x : Int} (h1 : -9223372036854775808 ≤ x) (h2 : x ≤ 9223372036854775807) : -9223372036854775808 ≤ x.tdiv 7 ∧ x.tdiv 7 ≤ 9223372036854775807 := by
  by_cases h : 0 ≤ x
  · rw [Int.tdiv_eq_ediv_of_nonneg h]; omega
  · obtain ⟨y, rfl⟩ : ∃ y, x = -y := ⟨-x, by omega⟩
    rw [Int.neg_tdiv, Int.tdiv_eq_ediv_of_nonneg (by omega)]; omega
theorem clock_ok {n : Int} : Ev.ok 1 n [] = true := by simp [Ev.ok, Ev.okE]
set_option maxHeartbeats 4000000 in
theorem segment_any (n : Int) (at_ : Nat) (hn : -9223372036854775808 ≤ n) (hn' : n ≤ 9223372036854775807) (hat : (at_ : Int) ≤ 2199023255552) (w : World) : Calls Tryz.prog 35 #[.int .i64 n, .int .u64 (at_ : Int)] w (PlanTo at_ w) := by
  have HR7 := Lib.hid fun w => Mk.round_any n 7 hn hn' (by omega) (by omega) w
  have hb7 := Mk.round_bd n 7 (by omega)
  generalize Mk.round n 7 = r7 at HR7 hb7
  have htd := tdiv7_bd hn hn'
  have HR4 := Lib.hid fun w => Mk.round_any (n.tdiv 7) 4 htd.1 htd.2 (by omega) (by omega) w
  have hb4 := Mk.round_bd (n.tdiv 7) 4 (by omega)
  generalize Mk.round (n.tdiv 7) 4 = r4 at HR4 hb4
  have HR1 := Lib.hid fun w => Mk.round_any n 1000 hn hn' (by omega) (by omega) w
  have hb1 := Mk.round_bd n 1000 (by omega)
  generalize Mk.round n 1000 = r1 at HR1 hb1
  obtain ⟨j7, rfl⟩ := Int.eq_ofNat_of_zero_le hb7.1
  obtain ⟨k, rfl⟩ := Int.eq_ofNat_of_zero_le hb4.1
  obtain ⟨j1, rfl⟩ := Int.eq_ofNat_of_zero_le hb1.1
  obtain ⟨_, hj7⟩ := hb7
  obtain ⟨_, hk4⟩ := hb4
  obtain ⟨_, hj1⟩ := hb1
  obtain ⟨kn, hkn⟩ : ∃ kn, at_ + j7 = kn := ⟨_, rfl⟩
  have hkn2 : (at_ : Int) + j7 = (kn : Int) := by omega
  have hkl : kn ≤ at_ + 6 := by omega
  have hkg : at_ ≤ kn := by omega
  have hkn0 : (kn : Int) ≤ 18446744073709551615 := by omega
  have HAT : Is (at_ + j7) kn := ⟨hkn⟩
  clear hkn
  have M0 := Lib.hid (((Mem.start w).alloc' (b := w.heap.size) rfl #[.int .u64 0, .int .u64 0, .slice none 0 0] 25).alloc' (b := w.heap.size + 1) (by simp) #[.int .u64 at_, .int .u64 kn, .slice none 0 0] 25 |>.nilRow (e := 70) (s := 4) (f := entC))
  go_enter Tryz.func35, Tryz.ntmps35
  go_wp2_with fail
  refine (HR7.out _).mono ?_
  rintro e w1 ⟨rfl, rfl⟩
  go_wp2_with fail
  refine (HR4.out _).mono ?_
  rintro e w1 ⟨rfl, rfl⟩
  go_wp2
  go_loopw [7, 8] (fun a i wr => ∃ (q p : Nat) (A : Option Addr) (cap : Nat) (es : List Ent), a = .int .u64 (p : Int) ∧ i = .int .i64 (q : Int) ∧ q ≤ k ∧ es.length = q ∧ Pl at_ kn es p ∧ Mem w wr [.box w.heap.size #[.int .u64 0, .int .u64 0, .slice none 0 0] 25, .box (w.heap.size + 1) #[.int .u64 at_, .int .u64 kn, .slice A q cap] 25, .row 70 4 entC w.heap.size (.slice A q cap) es]) (fun _ i _ => k - (RowKit.intOf i).toNat)
  case atStart => exact ⟨0, at_, none, 0, [], rfl, rfl, Nat.zero_le _, rfl, Pl.start hkg, M0.out⟩
  case round =>
    obtain ⟨q, p, A, cap, es, rfl, rfl, hq, hes, hpl, hM⟩ := hrel
    have HEQ : Is es.length q := ⟨hes⟩
    have HPL := Lib.hid hpl
    have M := Lib.hid hM
    have hp1 := hpl.p1
    have hp2 := hpl.p2
    have hcap : q ≤ cap := by
      obtain ⟨A', cap', e, h1, _⟩ := (hM.row 2 rfl).shape
      injection e with _ e1 e2
      omega
    clear hes hpl hM M0
    by_cases hlt : q < k
    · have z2 : (q : Int) < k := by omega
      have HEV := Lib.hid fun w => Evg.event_any (wrap64 (n + q)) w
      go_wp2_with fail
      refine (HEV.out _).mono ?_
      rintro e w2 ⟨ek, en, ed, rfl, hek, hen, hed, hok, h2⟩
      have MK := Lib.hid (M.out.keep h2)
      have M2 := Lib.hid ((M.out.keep h2).alloc #[.int .i64 ek, .int .u32 en, .string ed] 68)
      have HOK : Hid (okX (⟨p, ek, en, ed⟩ : Ent) = true) := hok
      have HIN : Hid (EntOK (⟨p, ek, en, ed⟩ : Ent)) := ⟨by simp only; omega, by simp only; omega, by simp only; omega, hen.1, hen.2, by simp only; omega⟩
      have hek1 : ¬ ek = 1 := by omega
      have HK1 := Lib.hid hek1
      clear HEV M h2 hok hek hen hed hek1
      by_cases hp : p < kn
      · have hpi : (p : Int) < kn := by omega
        have hpp : (p : Int) + 1 ≤ 18446744073709551615 := by omega
        by_cases hpar : (q : Int) % 2 = 1
        · have hpb : ((q : Int) % 2 == 1) = true := by simp [hpar]
          have hpb2 : ((q : Int).tmod 2 == 1) = true := by rw [Int.tmod_eq_emod_of_nonneg (by omega)]; exact hpb
          have MC := Lib.hid (MK.out.alloc #[.int .i64 1, .int .u32 (j1 : Int), .string ⟨#[]⟩] 68)
          have HOK1 : Hid (okX (⟨p, 1, j1, ⟨#[]⟩⟩ : Ent) = true) := clock_ok
          have HIN1 : Hid (EntOK (⟨p, 1, j1, ⟨#[]⟩⟩ : Ent)) := ⟨by simp only; omega, by simp only; omega, by simp only; omega, by simp only; omega, by simp only; omega, by simp [ByteArray.size]⟩
          obtain ⟨⟨a0, a1, a2⟩, ⟨af0, af1, af2⟩, hla⟩ := M2.out.box3 1 rfl
          obtain ⟨⟨b0, b1, b2⟩, ⟨bf0, bf1, bf2⟩, hlb⟩ := M2.out.box3 3 rfl
          have hn13 : ¬ w.heap.size + 1 = w2.heap.size := M2.out.ne 1 3 rfl rfl (by decide)
          have hn31 : ¬ w2.heap.size = w.heap.size + 1 := fun e => hn13 e.symm
          clear HOK HIN HK1
          go_wp2_with fail
          refine (HR1.out _).mono ?_
          rintro e w3 ⟨rfl, rfl⟩
          obtain ⟨⟨a0, a1, a2⟩, ⟨af0, af1, af2⟩, hla⟩ := MC.out.box3 1 rfl
          obtain ⟨⟨b0, b1, b2⟩, _, hlb⟩ := MC.out.box3 3 rfl
          have hn13 : ¬ w.heap.size + 1 = w2.heap.size := MC.out.ne 1 3 rfl rfl (by decide)
          have hn31 : ¬ w2.heap.size = w.heap.size + 1 := fun e => hn13 e.symm
          have M5 := Lib.hid (MC.out.skip (.cells #[.int .u64 (p : Int), .int .i64 1, .int .u32 j1, .string (⟨#[]⟩ : ByteArray)] 70))
          go_wp2_with (at_builtin; go_loud (refine Mem.wp_app M5.out 2 rfl rfl _ _ _ rfl _ 40 Tryz.underlying23 info_ent rfl (by decide) entC_len entC_one (⟨p, 1, j1, (⟨#[]⟩ : ByteArray)⟩ : Ent) ⟨w2.heap.size + 1, 0, none⟩ 1 rfl rfl (cells_new _ (by simp) _ _) q HEQ.out (by omega) (by decide) ?_); intro g6 cp6 w6 M6'; have M6 := Lib.hid M6'; obtain ⟨⟨c0, c1, c2⟩, ⟨cf0, cf1, cf2⟩, hlc⟩ := M6'.box3 1 rfl; clear M6')
          have M7 := Lib.hid (M6.out.put 1 rfl 2 (.slice (some ⟨g6, 0, none⟩) (q + 1) cp6))
          go_roundw
          case rel => exact ⟨q + 1, p + 1, some ⟨g6, 0, none⟩, cp6, es ++ [(⟨p, 1, j1, (⟨#[]⟩ : ByteArray)⟩ : Ent)], by go_num, by go_num, by omega, by rw [List.length_append, HEQ.out]; rfl, HPL.out.step HIN1.out HOK1.out rfl (by omega) (by omega) (fun e => by omega), M7.out.take 3⟩
          case measure => (simp [RowKit.intOf]) <;> omega
        · have hpb : ((q : Int) % 2 == 1) = false := by simp [hpar]
          have hpb2 : ((q : Int).tmod 2 == 1) = false := by rw [Int.tmod_eq_emod_of_nonneg (by omega)]; exact hpb
          obtain ⟨⟨a0, a1, a2⟩, ⟨af0, af1, af2⟩, hla⟩ := M2.out.box3 1 rfl
          obtain ⟨⟨b0, b1, b2⟩, _, hlb⟩ := M2.out.box3 3 rfl
          have hn13 : ¬ w.heap.size + 1 = w2.heap.size := M2.out.ne 1 3 rfl rfl (by decide)
          have hn31 : ¬ w2.heap.size = w.heap.size + 1 := fun e => hn13 e.symm
          have M5 := Lib.hid (M2.out.skip (.cells #[.int .u64 (p : Int), .int .i64 ek, .int .u32 en, .string ed] 70))
          go_wp2_with (at_builtin; go_loud (refine Mem.wp_app M5.out 2 rfl rfl _ _ _ rfl _ 40 Tryz.underlying23 info_ent rfl (by decide) entC_len entC_one (⟨p, ek, en, ed⟩ : Ent) ⟨w2.heap.size + 1, 0, none⟩ 1 rfl rfl (cells_new _ (by simp) _ _) q HEQ.out (by omega) (by decide) ?_); intro g6 cp6 w6 M6'; have M6 := Lib.hid M6'; obtain ⟨⟨c0, c1, c2⟩, ⟨cf0, cf1, cf2⟩, hlc⟩ := M6'.box3 1 rfl; clear M6')
          have M7 := Lib.hid (M6.out.put 1 rfl 2 (.slice (some ⟨g6, 0, none⟩) (q + 1) cp6))
          go_roundw
          case rel => exact ⟨q + 1, p + 1, some ⟨g6, 0, none⟩, cp6, es ++ [(⟨p, ek, en, ed⟩ : Ent)], by go_num, by go_num, by omega, by rw [List.length_append, HEQ.out]; rfl, HPL.out.step HIN.out HOK.out rfl (by omega) (by omega) (fun e => absurd e HK1.out), M7.out.take 3⟩
          case measure => (simp [RowKit.intOf]) <;> omega
      · have hpi : ¬ (p : Int) < kn := by omega
        have hpd : decide ((p : Int) < kn) = false := decide_eq_false hpi
        by_cases hpar : (q : Int) % 2 = 1
        · have hpb : ((q : Int) % 2 == 1) = true := by simp [hpar]
          have hpb2 : ((q : Int).tmod 2 == 1) = true := by rw [Int.tmod_eq_emod_of_nonneg (by omega)]; exact hpb
          obtain ⟨⟨a0, a1, a2⟩, ⟨af0, af1, af2⟩, hla⟩ := M2.out.box3 1 rfl
          obtain ⟨⟨b0, b1, b2⟩, _, hlb⟩ := M2.out.box3 3 rfl
          have hn13 : ¬ w.heap.size + 1 = w2.heap.size := M2.out.ne 1 3 rfl rfl (by decide)
          have hn31 : ¬ w2.heap.size = w.heap.size + 1 := fun e => hn13 e.symm
          have M5 := Lib.hid (M2.out.skip (.cells #[.int .u64 (p : Int), .int .i64 ek, .int .u32 en, .string ed] 70))
          go_wp2_with (at_builtin; go_loud (refine Mem.wp_app M5.out 2 rfl rfl _ _ _ rfl _ 40 Tryz.underlying23 info_ent rfl (by decide) entC_len entC_one (⟨p, ek, en, ed⟩ : Ent) ⟨w2.heap.size + 1, 0, none⟩ 1 rfl rfl (cells_new _ (by simp) _ _) q HEQ.out (by omega) (by decide) ?_); intro g6 cp6 w6 M6'; have M6 := Lib.hid M6'; obtain ⟨⟨c0, c1, c2⟩, ⟨cf0, cf1, cf2⟩, hlc⟩ := M6'.box3 1 rfl; clear M6')
          have M7 := Lib.hid (M6.out.put 1 rfl 2 (.slice (some ⟨g6, 0, none⟩) (q + 1) cp6))
          go_roundw
          case rel => exact ⟨q + 1, p, some ⟨g6, 0, none⟩, cp6, es ++ [(⟨p, ek, en, ed⟩ : Ent)], by go_num, by go_num, by omega, by rw [List.length_append, HEQ.out]; rfl, HPL.out.step HIN.out HOK.out rfl (by omega) (by omega) (fun e => absurd e HK1.out), M7.out.take 3⟩
          case measure => (simp [RowKit.intOf]) <;> omega
        · have hpb : ((q : Int) % 2 == 1) = false := by simp [hpar]
          have hpb2 : ((q : Int).tmod 2 == 1) = false := by rw [Int.tmod_eq_emod_of_nonneg (by omega)]; exact hpb
          obtain ⟨⟨a0, a1, a2⟩, ⟨af0, af1, af2⟩, hla⟩ := M2.out.box3 1 rfl
          obtain ⟨⟨b0, b1, b2⟩, _, hlb⟩ := M2.out.box3 3 rfl
          have hn13 : ¬ w.heap.size + 1 = w2.heap.size := M2.out.ne 1 3 rfl rfl (by decide)
          have hn31 : ¬ w2.heap.size = w.heap.size + 1 := fun e => hn13 e.symm
          have M5 := Lib.hid (M2.out.skip (.cells #[.int .u64 (p : Int), .int .i64 ek, .int .u32 en, .string ed] 70))
          go_wp2_with (at_builtin; go_loud (refine Mem.wp_app M5.out 2 rfl rfl _ _ _ rfl _ 40 Tryz.underlying23 info_ent rfl (by decide) entC_len entC_one (⟨p, ek, en, ed⟩ : Ent) ⟨w2.heap.size + 1, 0, none⟩ 1 rfl rfl (cells_new _ (by simp) _ _) q HEQ.out (by omega) (by decide) ?_); intro g6 cp6 w6 M6'; have M6 := Lib.hid M6'; obtain ⟨⟨c0, c1, c2⟩, ⟨cf0, cf1, cf2⟩, hlc⟩ := M6'.box3 1 rfl; clear M6')
          have M7 := Lib.hid (M6.out.put 1 rfl 2 (.slice (some ⟨g6, 0, none⟩) (q + 1) cp6))
          go_roundw
          case rel => exact ⟨q + 1, p, some ⟨g6, 0, none⟩, cp6, es ++ [(⟨p, ek, en, ed⟩ : Ent)], by go_num, by go_num, by omega, by rw [List.length_append, HEQ.out]; rfl, HPL.out.step HIN.out HOK.out rfl (by omega) (by omega) (fun e => absurd e HK1.out), M7.out.take 3⟩
          case measure => (simp [RowKit.intOf]) <;> omega
    · obtain rfl : q = k := by omega
      have z2 : ¬ (q : Int) < q := by omega
      obtain ⟨⟨a0, a1, a2⟩, ⟨af0, af1, af2⟩, hla⟩ := M.out.box3 0 rfl
      obtain ⟨⟨b0, b1, b2⟩, _, hlb⟩ := M.out.box3 1 rfl
      go_wp2
      have MF := M.out.put3 0 rfl (.int .u64 at_) (.int .u64 kn) (.slice A q cap)
      refine bodyPost_ret (Bx.res_c Tryz.results35 rfl (seg_load (MF.blk 0 rfl))) rfl ?_
      have hrow := MF.row 2 rfl
      obtain ⟨f1, f2⟩ := HPL.out.fin (by rw [HEQ.out]; omega) (by omega)
      exact ⟨kn, es, A, q, cap, rfl, f1, f2, hkl, fun B => ⟨(Own.reads entC_len hrow).1, Ty.own hrow, by simp only; omega, f2.f, f2.kn, f2.ok⟩, MF.held⟩
end St
end Go.Proofs.YthpjbffhdaaibaaGreat

set_option linter.unusedVariables false
set_option linter.unusedSimpArgs false
set_option maxRecDepth 100000
namespace Go.Proofs.YthpjbffhdaaibaaGreat
open Go.RowKit Go.BigFrame Go.Sort Go.Lib
namespace St
open Enc Uv Lg Lgc Strs
def inN (z : Int) : List Value := [.int .i64 z]
theorem inN_len (x : Int) : (inN x).length = 1 := rfl
theorem nums_in {o : Option Addr} {len cap : Nat} {z : List Int} {W : World} (h : Rw.IsRow .i64 W o len cap z) : ∃ L, Sl 1 inN W o len L ∧ (len : Int) ≤ 9223372036854775807 ∧ ∀ x ∈ L, -9223372036854775808 ≤ x ∧ x ≤ 9223372036854775807 := by
  obtain ⟨L, hL, hmax, hwf, hcell⟩ := h.view
  refine ⟨L, ⟨hL, hcell.imp id ?_⟩, by unfold maxLen at hmax; omega, ?_⟩
  · rintro ⟨b, off, e, hb, hc⟩
    refine ⟨b, off, e, hb, fun k hk j v hv => ?_⟩
    rcases j with _ | j
    · simp only [inN, List.getElem?_cons_zero, Option.some.injEq] at hv
      subst hv
      have := hc k hk
      simpa using this
    · simp [inN] at hv
  · intro x hx
    exact Rw.bd_i64 (hwf x hx)
theorem in_at {w a : World} {A : Option Addr} {n : Nat} {L : List Int} (h : Sl 1 inN w A n L) (ha : Held w a) {k : Nat} (hk : k < n) :
    ∃ b off x, A = some ⟨b, off, none⟩ ∧ b < w.heap.size ∧ L[k]? = some x ∧ a.cell? ⟨b, off + k, none⟩ = some (.int .i64 x) := by
  obtain ⟨b, off, x, e, hb, hx, hc⟩ := Sl.at_ h ha hk
  have := hc 0 _ rfl
  rw [Nat.add_zero, Nat.mul_one] at this
  exact ⟨b, off, x, e, hb, hx, this⟩
theorem pos_app {a : Nat} {G : List Seg} (g : Seg) {i : Nat} (h : i ≤ G.length) : pos a (G ++ [g]) i = pos a G i := by
  unfold pos
  rw [List.take_append_of_le_length h]
theorem Ch.nil (a : Nat) : Ch a [] := ⟨fun i h => by simp at h, fun i h => by simp at h, fun i h => by simp at h⟩
theorem Ch.snoc {a : Nat} {G : List Seg} (h : Ch a G) {g : Seg} (h1 : g.f = pos a G G.length) (h2 : segOk g = true) (h3 : SegIn g) : Ch a (G ++ [g]) := by
  have key : ∀ i (hi : i < (G ++ [g]).length), (∃ h : i < G.length, (G ++ [g])[i] = G[i]) ∨ (i = G.length ∧ (G ++ [g])[i] = g) := fun i hi => by
    by_cases e : i < G.length
    · exact .inl ⟨e, List.getElem_append_left e⟩
    · have : i = G.length := by rw [List.length_append, List.length_singleton] at hi; omega
      subst this
      exact .inr ⟨rfl, by simp⟩
  refine ⟨fun i hi => ?_, fun i hi => ?_, fun i hi => ?_⟩
  · rcases key i hi with ⟨e, q⟩ | ⟨e, q⟩
    · rw [q, pos_app g (Nat.le_of_lt e)]; exact h.f i e
    · rw [q, e, pos_app g (Nat.le_refl _)]; exact h1
  · rcases key i hi with ⟨e, q⟩ | ⟨e, q⟩
    · rw [q]; exact h.ok i e
    · rw [q]; exact h2
  · rcases key i hi with ⟨e, q⟩ | ⟨e, q⟩
    · rw [q]; exact h.inn i e
    · rw [q]; exact h3
theorem pos_last {a : Nat} {G : List Seg} {g : Seg} {n : Nat} (h : G.length = n) : pos a (G ++ [g]) (n + 1) = g.kn := by
  rw [pos_succ a _ (by rw [List.length_append, List.length_singleton]; omega)]
  subst h
  simp
/-- A call hands back valid segments that follow each other. -/
def SegsTo (B a n : Nat) (w : World) (e : Ending) (w' : World) : Prop := ∃ A cap R, e = .returned (.slice A n cap) ∧ R.length = n ∧ Ch a (gs R) ∧ Own 25 3 segC w.heap.size w' (.slice A n cap) R ∧ Sgs B w' R ∧ Held w w'
set_option maxHeartbeats 2000000 in
theorem segments_any (A : Option Addr) (n cap : Nat) (L : List Int) (a : Nat) (B : Nat) (w : World) (hB : B ≤ w.heap.size) (h : Sl 1 inN w A n L) (hL : ∀ x ∈ L, -9223372036854775808 ≤ x ∧ x ≤ 9223372036854775807) (hn : n ≤ 20) (ha : (a : Int) ≤ 1099511627776) :
    Calls Tryz.prog 32 #[.slice A n cap, .int .u64 (a : Int)] w (SegsTo B a n w) := by
  have HS := Lib.hid h
  have HL := Lib.hid hL
  have HBB := Lib.hid hB
  clear h hL hB
  have M0 := Lib.hid ((Mem.start w).nilRow (e := 25) (s := 3) (f := segC))
  go_enter Tryz.func32, Tryz.ntmps32
  go_wp2
  go_loopw [1, 5, 6] (fun p v i wr => ∃ (q x : Nat) (R : List SR), p = .int .u64 (x : Int) ∧ i = .int .i64 (q : Int) ∧ q ≤ n ∧ R.length = q ∧ Ch a (gs R) ∧ x = pos a (gs R) q ∧ x ≤ a + 6 * q ∧ Sgs B wr R ∧ Mem w wr [.row 25 3 segC w.heap.size v R]) (fun _ _ i _ => n - (RowKit.intOf i).toNat)
  case atStart => exact ⟨0, a, [], rfl, rfl, Nat.zero_le _, rfl, Ch.nil a, rfl, by omega, Sgs.nil _ _, M0.out⟩
  case round =>
    obtain ⟨q, x, R, rfl, rfl, hq, hRq, hch, hx, hxl, hs, hM⟩ := hrel
    obtain ⟨A2, cap2, rfl, hcap2, _⟩ := (hM.row 0 rfl).shape
    have HRQ : Is R.length q := ⟨hRq⟩
    have HCH := Lib.hid hch
    have HX : Is x (pos a (gs R) q) := ⟨hx⟩
    have SS := Lib.hid hs
    have M := Lib.hid hM
    rw [hRq] at M hcap2 ⊢
    clear hch hx hs hM hRq M0
    by_cases hlt : q < n
    · obtain ⟨b, off, z, rfl, hb, hz, hc⟩ := in_at HS.out M.out.held (k := q) hlt
      have hzb := HL.out z (List.mem_of_getElem? hz)
      have z2 : (q : Int) < n := by omega
      have z3 : (0 : Int) ≤ q := by omega
      have HG := Lib.hid fun w => segment_any z x hzb.1 hzb.2 (by omega) w
      have hne : ¬ b = wr.heap.size := by have := M.out.held.le; omega
      clear hz hb hzb
      go_wp2_with fail
      refine (HG.out _).mono ?_
      rintro e w2 ⟨kn, es, A3, n3, cap3, rfl, hok, hin, hkl, hsg, h2⟩
      have M2 := Lib.hid ((M.out.keep h2).alloc #[.int .u64 x, .int .u64 kn, .slice A3 n3 cap3] 25)
      have M3 := Lib.hid (M2.out.skip (.cells #[.int .u64 x, .int .u64 kn, .slice A3 n3 cap3] 25))
      have hh : Held w2 _ := ((Held.refl w2).alloc (.cells #[.int .u64 x, .int .u64 kn, .slice A3 n3 cap3] 25)).alloc (.cells #[.int .u64 x, .int .u64 kn, .slice A3 n3 cap3] 25)
      have S3 := Lib.hid ((SS.out.held h2).held hh)
      have G3 := Lib.hid ((hsg B).held hh)
      obtain ⟨⟨c0, c1, c2⟩, _, hl⟩ := M2.out.box3 1 rfl
      have HOK := Lib.hid hok
      have HIN := Lib.hid hin
      clear hh hsg h2 hok hin hc
      go_wp2_with (at_builtin; refine Mem.wp_appC M3.out 0 rfl rfl _ _ _ rfl _ 40 Tryz.underlying26 info_seg rfl (by decide) segC_len segC_one ⟨x, kn, A3, n3, cap3, es⟩ ⟨w2.heap.size + 1, 0, none⟩ 1 rfl rfl (cells_new _ (by simp) _ _) q HRQ.out (by omega) (by decide) ?_; intro g4 cp4 w4 M4' k4; have M4 := Lib.hid M4'; have K4 := Lib.hid k4; obtain ⟨⟨e0, e1, e2⟩, _, hle⟩ := M4'.box3 1 rfl; clear M4' k4)
      go_roundw
      case rel =>
        have kk := K4.out 70 B (by decide) HBB.out
        have hgl : (gs R).length = q := by rw [gs_len]; exact HRQ.out
        refine ⟨q + 1, kn, R ++ [(⟨x, kn, A3, n3, cap3, es⟩ : SR)], rfl, by go_num, by omega, by rw [List.length_append, HRQ.out]; rfl, ?_, ?_, by omega, (S3.out.chg kk).snoc (G3.out.chg kk), M4.out.take 1⟩
        · unfold gs at hgl ⊢
          rw [List.map_append]
          have := HCH.out
          unfold gs at this
          exact this.snoc (by rw [hgl]; exact HX.out) HOK.out HIN.out
        · unfold gs at hgl ⊢
          rw [List.map_append]
          exact (pos_last (g := ⟨x, kn, es⟩) hgl).symm
      case measure => (simp [RowKit.intOf]) <;> omega
    · obtain rfl : q = n := by omega
      have z2 : ¬ (q : Int) < q := by omega
      go_wp2
      go_ret
      exact ⟨A2, cap2, R, rfl, HRQ.out, HCH.out, M.out.row 0 rfl, SS.out, M.out.held⟩
end St
end Go.Proofs.YthpjbffhdaaibaaGreat

set_option linter.unusedVariables false
set_option maxRecDepth 100000
namespace Go.Proofs.YthpjbffhdaaibaaGreat
open Go.RowKit
namespace SlcSg
theorem info : (Tryz.prog.info? 25).map (fun i => (i.zero, i.size, i.bytes)) = some (some (.agg #[.int .u64 0, .int .u64 0, .slice none 0 0]), 3, 40) := by kernel_rfl
theorem zero (w : World) : (zeroValue 25).run Tryz.prog w = .ok (.agg #[.int .u64 0, .int .u64 0, .slice none 0 0]) w := by kernel_rfl
theorem zcells (n : Nat) : ∀ u ∈ (Builtin.zeroCells (Value.cells (.agg #[.int .u64 0, .int .u64 0, .slice none 0 0])) n).toList, u.oneCell' = true := by
  intro u hu
  simp only [Builtin.zeroCells, Array.toList_map, List.mem_map] at hu
  obtain ⟨i, _, rfl⟩ := hu
  have hs : (Value.cells (.agg #[.int .u64 0, .int .u64 0, .slice none 0 0])).size = 3 := rfl
  rw [hs]
  have hm : i % 3 < 3 := Nat.mod_lt _ (by decide)
  generalize i % 3 = k at hm
  match k, hm with
  | 0, _ => rfl
  | 1, _ => rfl
  | 2, _ => rfl
  | k + 3, h => omega
section
variable {α : Type} {f : α → List Value}
theorem delete_any (hf : ∀ x, (f x).length = 3) (hf1 : ∀ x, ∀ u ∈ f x, u.oneCell' = true) (base : Nat) (v : Value) (L : List α) (i j : Nat) (w : World) (h : Own 25 3 f base w v L) (hij : i < j) (hj : j ≤ L.length) (hmax : (L.length : Int) ≤ 1099511627776) :
    Calls Tryz.prog 56 #[v, .int .i64 i, .int .i64 j] w (Sg.Got 25 3 f base v (L.take i ++ L.drop j) w) := by
  obtain ⟨i0, hi0, hz0, hz1, hz2⟩ := info_parts info
  obtain ⟨A, cap, rfl⟩ : ∃ A cap, v = .slice A L.length cap := by obtain ⟨A, cap, hv, _⟩ := h.shape; exact ⟨A, cap, hv⟩
  obtain ⟨g, C, rfl, hb, hrow, hlen, htake, _, hcap, hm⟩ := Sg.own_row hf h (by omega)
  obtain ⟨n, hn⟩ : ∃ n, L.length = n := ⟨_, rfl⟩
  rw [hn] at h htake hcap hj hmax ⊢
  have hfl : (L.flatMap f).length = n * 3 := by rw [flat_len hf, hn]
  have hcs : n * 3 ≤ C.length := by rw [hlen]; exact Nat.mul_le_mul_right _ hcap
  -- what is moved
  obtain ⟨news, hnews⟩ : ∃ news, news = (L.flatMap f).drop (j * 3) := ⟨_, rfl⟩
  have hnl : news.length = (n - j) * 3 := by rw [hnews, List.length_drop, hfl]; omega
  have hn1 : ∀ u ∈ news, u.oneCell' = true := by
    intro u hu
    rw [hnews] at hu
    have := List.mem_of_mem_drop hu
    rw [List.mem_flatMap] at this
    obtain ⟨x, _, hx⟩ := this
    exact hf1 x u hx
  have hnC : news = (C.drop (j * 3)).take ((n - j) * 3) := by
    rw [hnews, ← htake, List.drop_take]; congr 1; omega
  obtain ⟨A2, hA2, hnw⟩ : ∃ A2 : Addr, (if cap = j then (⟨g, 0, none⟩ : Addr) else ⟨g, j * 3, none⟩) = A2 ∧ ∀ k u, news[k]? = some u → w.drew.cell? (A2.add k) = some u := by
    by_cases hcj : cap = j
    · refine ⟨_, if_pos hcj, fun k u hk => ?_⟩
      have : news.length = 0 := by rw [hnl]; omega
      rw [List.eq_nil_of_length_eq_zero this] at hk; cases hk
    · refine ⟨_, if_neg hcj, fun k u hk => ?_⟩
      rw [hnC] at hk
      exact Sg.news_at hrow.drew _ _ k u hk
  obtain ⟨w1, hr1, hrow1⟩ := Sg.app_room (P := Tryz.prog) (ty := 26) Tryz.underlying26 hi0 hz1 hrow.drew i cap A2 (n - j) (cap - j) news hnl hnw hn1 (by omega) (by rw [hnl, ← Nat.add_mul]; exact Nat.le_trans (Nat.mul_le_mul_right _ (by omega)) hcs)
  have hl1 : (Sg.lay C (i * 3) news).length = C.length := Sg.lay_len (by rw [hnl, ← Nat.add_mul]; exact Nat.le_trans (Nat.mul_le_mul_right _ (by omega)) hcs)
  have hzs : (Value.cells (.agg #[.int .u64 0, .int .u64 0, .slice none 0 0])).size = 3 := rfl
  obtain ⟨w2, hr2, hrow2⟩ := Sg.clear_row (P := Tryz.prog) (t := 26) (ty := 0) Tryz.underlying26 zero (zcells 1) hrow1 ((i + (n - j)) * 3) (n - (i + (n - j))) (cap - (i + (n - j))) (by omega) (zcells _) (by rw [hl1, hzs, ← Nat.add_mul]; exact Nat.le_trans (Nat.mul_le_mul_right _ (by omega)) hcs)
  have hfin : Hid (Sg.Got 25 3 f base (.slice (some ⟨g, 0, none⟩) n cap) (L.take i ++ L.drop j) w (.returned (.slice (some ⟨g, 0, none⟩) (i + (n - j)) cap)) w2) := by
    refine Sg.Got.mk (Sg.row_own hf hrow2 hb ?_ ?_ (by omega) hm ?_) hrow2.grown (.inl rfl)
    · rw [Sg.lay_len (by simp only [Builtin.zeroCells, Array.toList_map, List.length_map]; rw [hl1]; simp [hzs]; first | (rw [← Nat.add_mul]; exact Nat.le_trans (Nat.mul_le_mul_right _ (by omega)) hcs) | omega), hl1, hlen]
    · rw [List.length_append, List.length_take, List.length_drop]; omega
    · rw [Sg.lay_low (by rw [hl1]; exact Nat.le_trans (Nat.mul_le_mul_right _ (by omega)) hcs) (Nat.le_refl _)]
      have e1 : (i + (n - j)) * 3 = i * 3 + news.length := by rw [hnl, Nat.add_mul]
      rw [e1, Sg.lay_take (Nat.le_trans (Nat.mul_le_mul_right _ (by omega)) hcs), List.flatMap_append, Sg.flat_take hf L i (by omega), Sg.flat_drop hf L j (by omega), hnews, ← htake, List.take_take, Nat.min_eq_left (Nat.mul_le_mul_right _ (by omega))]
  have hsl : ∀ w', (Instr.slice 26 (.slice (some ⟨g, 0, none⟩) n cap) (some (.int .i64 j)) none none).run Tryz.prog w' = .ok (.slice (some A2) (n - j) (cap - j)) w' := by
    intro w'
    have := Sg.slice_from (P := Tryz.prog) Tryz.underlying26 hi0 hz1 g 0 n cap j hj hcap w'
    rw [Nat.zero_add, hA2] at this
    exact this
  clear hA2
  have b1 : (i : Int) ≤ j := by omega
  have b2 : (j : Int) ≤ n := by omega
  have b3 : (n : Int) ≤ cap := by omega
  have b4 : (cap : Int) ≤ 9223372036854775807 := by unfold maxLen at hm; omega
  have b9 : (i : Int) ≤ cap := by omega
  have b10 : (0 : Int) ≤ i := by omega
  have b5 : ((i : Int) == j) = false := by simp; omega
  have b6 : ¬ (i : Int) = j := by omega
  have b7 : ¬ cap = i + (n - j) := by omega
  have b8 : ((i + (n - j) : Nat) : Int) ≤ n := by omega
  clear hrow hrow1 hrow2 hlen htake hcap hm hfl hcs hnl hn1 hnC hnw hl1 hzs h hi0 hz0 hz1 hz2 hnews
  go_enter Tryz.func56, Tryz.ntmps56
  go_wp2
  go_region_held3 (fun _ => True) (trivial) (refine Sg.step_append (by rfl) _ _ _ _ 26 (by rfl) (by rfl) (by rfl) (by rfl) hr1 ?_)
  go_wp2
  go_ret
  exact hfin.out
end
end SlcSg
end Go.Proofs.YthpjbffhdaaibaaGreat

set_option linter.unusedVariables false
set_option linter.unusedSimpArgs false
set_option maxRecDepth 100000
namespace Go.Proofs.YthpjbffhdaaibaaGreat
open Go.RowKit Go.BigFrame Go.Sort Go.Lib
namespace St
open Enc Uv Lg Lgc Strs
theorem gs_drop (R : List SR) (k : Nat) : gs (R.drop k) = (gs R).drop k := List.map_drop
theorem gs_take (R : List SR) (k : Nat) : gs (R.take k) = (gs R).take k := List.map_take
theorem gs_at {R : List SR} {k : Nat} {x : SR} (h : R[k]? = some x) : (gs R)[k]? = some x.g := by unfold gs; rw [List.getElem?_map, h]; rfl
theorem ackAt_eq {b t kn n k : Nat} {R : List SR} {x : SR} (h : R[k]? = some x) (hk : n - b - 1 = k) : ackAt ⟨b, t, kn, gs R⟩ n = some x.kn := by
  unfold ackAt; simp only; rw [hk, gs_at h]; rfl
theorem opened_lt (l : List UInt8) (m : UInt8) : (opened l m).1 < 18446744073709551616 := by
  have h : (opens l).1 < 18446744073709551616 := by
    have h1 := numR_lt l false
    unfold opens
    split
    · exact Nat.zero_lt_succ _
    · split
      · exact Nat.zero_lt_succ _
      · exact h1
  unfold opened opened1
  split
  · exact Nat.zero_lt_succ _
  · split
    · exact Nat.zero_lt_succ _
    · split
      · exact h
      · exact Nat.zero_lt_succ _
set_option maxHeartbeats 4000000 in
theorem acked_any (b t kn : Nat) (A : Option Addr) (n cap : Nat) (L : List SR) (s : ByteArray) (B : Nat) (w : World) (hB : B ≤ w.heap.size) (h : Sl 3 segC w A n L) (hg : Sgs B w L) (hn : n ≤ 1000000) (hs : (s.size : Int) ≤ 1000000000000) :
    Calls Tryz.prog 24 #[.agg #[.int .u64 b, .int .u64 t, .int .u64 kn, .slice A n cap], .string s] w (SndX B (acked ⟨b, t, kn, gs L⟩ s.data.toList).1 (.bool (acked ⟨b, t, kn, gs L⟩ s.data.toList).2) w) := by
  have HS := Lib.hid h
  have HG := Lib.hid hg
  have HL : Is L.length n := ⟨h.1⟩
  have HBB := Lib.hid hB
  have hn2 : (n : Int) ≤ 1000000 := by omega
  have hql : (gs L).length = n := by rw [gs_len]; exact h.1
  have hol := opened_len s.data.toList 65
  have HO := fun w => openBody_any s 65 hs w
  have HP : Is (acked ⟨b, t, kn, gs L⟩ s.data.toList) (acked1 ⟨b, t, kn, gs L⟩ (opened s.data.toList 65)) := ⟨rfl⟩
  obtain ⟨p, hp⟩ : ∃ p, acked ⟨b, t, kn, gs L⟩ s.data.toList = p := ⟨_, rfl⟩
  obtain ⟨o, ho⟩ : ∃ o, opened s.data.toList 65 = o := ⟨_, rfl⟩
  have hon := opened_lt s.data.toList 65
  rw [ho] at HO HP hol hon
  obtain ⟨on, orest, ook⟩ := o
  have HO1 := Lib.hid HO
  rw [hp] at HP ⊢
  rw [len_eq] at hol
  simp only at hol hon
  have HP1 : Is p (if (!ook || !sending ⟨b, t, kn, gs L⟩) = true then (⟨b, t, kn, gs L⟩, false) else if (!uvB orest || decide (uvN orest ≠ orest.length)) = true then (⟨b, t, kn, gs L⟩, false) else if (decide (on ≤ b) || decide (n < on - b)) = true then (⟨b, t, kn, gs L⟩, false) else if ackAt ⟨b, t, kn, gs L⟩ on ≠ some (uvX orest) then (⟨b, t, kn, gs L⟩, false) else (⟨on, t, uvX orest, (gs L).drop (on - b)⟩, true)) := ⟨by rw [HP.out, ← hql]; rfl⟩
  have hsq : sending ⟨b, t, kn, gs L⟩ = true → n ≤ 8 := fun e => by
    unfold sending at e
    simp only [Bool.and_eq_true, decide_eq_true_eq] at e
    rw [← hql]; exact e.1.2
  have HSQ := Lib.hid hsq
  obtain ⟨sv, hsv⟩ : ∃ sv, sending ⟨b, t, kn, gs L⟩ = sv := ⟨_, rfl⟩
  have M0 : Hid (Mem w ((w.alloc (.cells #[.int .u64 b, .int .u64 t, .int .u64 kn, .slice A n cap] 28)).alloc (.cells #[.int .u64 0, .int .u64 0, .int .u64 0, .slice none 0 0] 28)) [.box w.heap.size #[.int .u64 b, .int .u64 t, .int .u64 kn, .slice A n cap] 28, .box (w.heap.size + 1) #[.int .u64 0, .int .u64 0, .int .u64 0, .slice none 0 0] 28]) :=
    ((Mem.start w).alloc' (b := w.heap.size) rfl _ _).alloc' (b := w.heap.size + 1) (by simp) _ _
  obtain ⟨w1, hw1⟩ : ∃ w1, ((w.alloc (.cells #[.int .u64 b, .int .u64 t, .int .u64 kn, .slice A n cap] 28)).alloc (.cells #[.int .u64 0, .int .u64 0, .int .u64 0, .slice none 0 0] 28)) = w1 := ⟨_, rfl⟩
  have HW1 := Lib.hid hw1
  rw [hw1] at M0
  have HCP := Lib.hid (copySender_any b t kn A n cap L B w1 (Nat.le_trans hB M0.out.held.le) (h.held M0.out.held) (hg.held M0.out.held) hn)
  have HSN := Lib.hid fun (w' : World) (k : Held w w') => sending_any b t kn A n cap L B w' (h.held k) (hg.held k) hn
  rw [hsv] at HP1 HSQ
  simp only [hsv] at HSN
  clear hp ho HO HP hsv hw1 h hg hB hql hsq
  obtain ⟨⟨c0, c1, c2, c3⟩, _, hl0⟩ := M0.out.box4 0 rfl
  go_enter Tryz.func24, Tryz.ntmps24
  go_wp2_with fail
  rw [HW1.out]
  refine HCP.out.mono ?_
  rintro e w2 ⟨A2, n2, cap2, rfl, ⟨R, hR, oR, sR⟩, h2⟩
  dsimp only at hR ⊢
  have hRl : R.length = n := by have := congrArg List.length hR; rw [gs_len, gs_len, HL.out] at this; exact this
  obtain rfl : n2 = n := by rw [← hRl]; exact (Own.reads segC_len oR).2.1
  have HRL : Is R.length n2 := ⟨hRl⟩
  have HR := Lib.hid hR
  have M2 := Lib.hid ((M0.out.own h2 oR).alloc #[.int .u64 b, .int .u64 t, .int .u64 kn, .slice A2 n2 cap2] 28)
  have S2 := Lib.hid (sR.held ((Held.refl w2).alloc (.cells #[.int .u64 b, .int .u64 t, .int .u64 kn, .slice A2 n2 cap2] 28)))
  clear hR oR sR h2 HCP HW1 M0 c0 c1 c2 c3 hl0 hRl
  go_wp2_with fail
  refine (HO1.out _).mono ?_
  rintro e w3 ⟨rs, rfl, hrs, h3⟩
  dsimp only at hrs ⊢
  have HRS : Is rs.data.toList orest := ⟨hrs⟩
  have hrl : rs.size = orest.length := by rw [← hrs, len_eq]
  have M3 := Lib.hid (M2.out.keep h3)
  have S3 := Lib.hid (S2.out.held h3)
  clear h3 HO1 M2 S2 hrs
  obtain ⟨⟨a0, a1, a2, a3⟩, _, hla⟩ := M3.out.box4 0 rfl
  cases ook
  · have HP2 : Is p (⟨b, t, kn, gs L⟩, false) := ⟨HP1.out⟩
    clear HP1
    obtain ⟨⟨c0, c1, c2, c3⟩, ⟨f0, f1, f2, f3⟩, hl0⟩ := M3.out.box4 1 rfl
    obtain ⟨⟨d0, d1, d2, d3⟩, _, hl1⟩ := M3.out.box4 3 rfl
    have hn02 : ¬ w.heap.size + 1 = w2.heap.size := M3.out.ne 1 3 rfl rfl (by decide)
    have hn20 : ¬ w2.heap.size = w.heap.size + 1 := fun e => hn02 e.symm
    go_wp2
    have MF := M3.out.put4 1 rfl (.int .u64 b) (.int .u64 t) (.int .u64 kn) (.slice A2 n2 cap2)
    refine bodyPost_ret (Bx.res_ct Tryz.results24 rfl (snd_load (MF.blk 1 rfl))) rfl ?_
    exact SndX.mk (by rw [HP2.out, HR.out]) (by rw [HP2.out]; rfl) (MF.row 2 rfl) (S3.out.put4 (Blk.of M3.out 1 rfl (by decide) HBB.out) _ _ _ _) MF.held
  have HP3 : Is p (if sv = false then (⟨b, t, kn, gs L⟩, false) else if (!uvB orest || decide (uvN orest ≠ orest.length)) = true then (⟨b, t, kn, gs L⟩, false) else if (decide (on ≤ b) || decide (n2 < on - b)) = true then (⟨b, t, kn, gs L⟩, false) else if ackAt ⟨b, t, kn, gs L⟩ on ≠ some (uvX orest) then (⟨b, t, kn, gs L⟩, false) else (⟨on, t, uvX orest, (gs L).drop (on - b)⟩, true)) := ⟨by rw [HP1.out]; cases sv <;> simp⟩
  clear HP1
  go_wp2_with fail
  refine (HSN.out _ M3.out.held).mono ?_
  rintro e w4 ⟨rfl, h4⟩
  have M4 := Lib.hid (M3.out.keep h4)
  have S4 := Lib.hid (S3.out.held h4)
  clear h4 HSN M3 S3 a0 a1 a2 a3 hla
  obtain ⟨⟨a0, a1, a2, a3⟩, _, hla⟩ := M4.out.box4 0 rfl
  cases sv
  · have HP2 : Is p (⟨b, t, kn, gs L⟩, false) := ⟨HP3.out⟩
    clear HP3
    obtain ⟨⟨c0, c1, c2, c3⟩, ⟨f0, f1, f2, f3⟩, hl0⟩ := M4.out.box4 1 rfl
    obtain ⟨⟨d0, d1, d2, d3⟩, _, hl1⟩ := M4.out.box4 3 rfl
    have hn02 : ¬ w.heap.size + 1 = w2.heap.size := M4.out.ne 1 3 rfl rfl (by decide)
    have hn20 : ¬ w2.heap.size = w.heap.size + 1 := fun e => hn02 e.symm
    go_wp2
    have MF := M4.out.put4 1 rfl (.int .u64 b) (.int .u64 t) (.int .u64 kn) (.slice A2 n2 cap2)
    refine bodyPost_ret (Bx.res_ct Tryz.results24 rfl (snd_load (MF.blk 1 rfl))) rfl ?_
    exact SndX.mk (by rw [HP2.out, HR.out]) (by rw [HP2.out]; rfl) (MF.row 2 rfl) (S4.out.put4 (Blk.of M4.out 1 rfl (by decide) HBB.out) _ _ _ _) MF.held
  have hn8 := HSQ.out rfl
  have HU := Lib.hid fun w => uv_any rs (by omega) w
  rw [HRS.out] at HU
  have hX := uvX_lt orest
  have hN := uvN_le orest
  have HP4 : Is p (if (!uvB orest || decide (uvN orest ≠ orest.length)) = true then (⟨b, t, kn, gs L⟩, false) else if (decide (on ≤ b) || decide (n2 < on - b)) = true then (⟨b, t, kn, gs L⟩, false) else if ackAt ⟨b, t, kn, gs L⟩ on ≠ some (uvX orest) then (⟨b, t, kn, gs L⟩, false) else (⟨on, t, uvX orest, (gs L).drop (on - b)⟩, true)) := ⟨HP3.out⟩
  clear HP3 HRS
  generalize uvX orest = X at HU HP4 hX
  generalize uvB orest = Y at HU HP4
  generalize uvN orest = N at HU HP4 hN
  go_wp2_with fail
  refine (HU.out _).mono ?_
  rintro e w5 ⟨rfl, rfl⟩
  clear HU
  by_cases t1 : (!Y || decide (N ≠ orest.length)) = true
  · have HP2 : Is p (⟨b, t, kn, gs L⟩, false) := ⟨by rw [HP4.out, if_pos t1]⟩
    clear HP4
    cases Y
    · clear t1
      obtain ⟨⟨c0, c1, c2, c3⟩, ⟨f0, f1, f2, f3⟩, hl0⟩ := M4.out.box4 1 rfl
      obtain ⟨⟨d0, d1, d2, d3⟩, _, hl1⟩ := M4.out.box4 3 rfl
      have hn02 : ¬ w.heap.size + 1 = w2.heap.size := M4.out.ne 1 3 rfl rfl (by decide)
      have hn20 : ¬ w2.heap.size = w.heap.size + 1 := fun e => hn02 e.symm
      go_wp2
      have MF := M4.out.put4 1 rfl (.int .u64 b) (.int .u64 t) (.int .u64 kn) (.slice A2 n2 cap2)
      refine bodyPost_ret (Bx.res_ct Tryz.results24 rfl (snd_load (MF.blk 1 rfl))) rfl ?_
      exact SndX.mk (by rw [HP2.out, HR.out]) (by rw [HP2.out]; rfl) (MF.row 2 rfl) (S4.out.put4 (Blk.of M4.out 1 rfl (by decide) HBB.out) _ _ _ _) MF.held
    · have t2 : ((N : Int) == orest.length) = false := by rw [beq_eq_false_iff_ne]; simp at t1; omega
      have t3 : (N == orest.length) = false := by rw [beq_eq_false_iff_ne]; simp at t1; exact t1
      have t4 : ¬ N = orest.length := by simp at t1; exact t1
      clear t1
      obtain ⟨⟨c0, c1, c2, c3⟩, ⟨f0, f1, f2, f3⟩, hl0⟩ := M4.out.box4 1 rfl
      obtain ⟨⟨d0, d1, d2, d3⟩, _, hl1⟩ := M4.out.box4 3 rfl
      have hn02 : ¬ w.heap.size + 1 = w2.heap.size := M4.out.ne 1 3 rfl rfl (by decide)
      have hn20 : ¬ w2.heap.size = w.heap.size + 1 := fun e => hn02 e.symm
      go_wp2
      have MF := M4.out.put4 1 rfl (.int .u64 b) (.int .u64 t) (.int .u64 kn) (.slice A2 n2 cap2)
      refine bodyPost_ret (Bx.res_ct Tryz.results24 rfl (snd_load (MF.blk 1 rfl))) rfl ?_
      exact SndX.mk (by rw [HP2.out, HR.out]) (by rw [HP2.out]; rfl) (MF.row 2 rfl) (S4.out.put4 (Blk.of M4.out 1 rfl (by decide) HBB.out) _ _ _ _) MF.held
  have HP5 : Is p (if (decide (on ≤ b) || decide (n2 < on - b)) = true then (⟨b, t, kn, gs L⟩, false) else if ackAt ⟨b, t, kn, gs L⟩ on ≠ some X then (⟨b, t, kn, gs L⟩, false) else (⟨on, t, X, (gs L).drop (on - b)⟩, true)) := ⟨by rw [HP4.out, if_neg t1]⟩
  obtain rfl : Y = true := by cases Y <;> simp_all
  have hNl : N = orest.length := by simpa using t1
  subst hNl
  clear HP4 t1
  by_cases t5 : (on : Int) ≤ b
  · have HP2 : Is p (⟨b, t, kn, gs L⟩, false) := ⟨by rw [HP5.out, if_pos (by simp; omega)]⟩
    clear HP5
    obtain ⟨⟨c0, c1, c2, c3⟩, ⟨f0, f1, f2, f3⟩, hl0⟩ := M4.out.box4 1 rfl
    obtain ⟨⟨d0, d1, d2, d3⟩, _, hl1⟩ := M4.out.box4 3 rfl
    have hn02 : ¬ w.heap.size + 1 = w2.heap.size := M4.out.ne 1 3 rfl rfl (by decide)
    have hn20 : ¬ w2.heap.size = w.heap.size + 1 := fun e => hn02 e.symm
    go_wp2
    have MF := M4.out.put4 1 rfl (.int .u64 b) (.int .u64 t) (.int .u64 kn) (.slice A2 n2 cap2)
    refine bodyPost_ret (Bx.res_ct Tryz.results24 rfl (snd_load (MF.blk 1 rfl))) rfl ?_
    exact SndX.mk (by rw [HP2.out, HR.out]) (by rw [HP2.out]; rfl) (MF.row 2 rfl) (S4.out.put4 (Blk.of M4.out 1 rfl (by decide) HBB.out) _ _ _ _) MF.held
  have t5d : decide ((on : Int) ≤ b) = false := decide_eq_false t5
  have t5n : decide (on ≤ b) = false := decide_eq_false (by omega)
  obtain ⟨gone, hgone⟩ : ∃ g, on - b = g := ⟨_, rfl⟩
  have hg1 : (on : Int) - b = (gone : Int) := by omega
  have hg2 : 1 ≤ gone := by omega
  rw [hgone, t5n, Bool.false_or] at HP5
  have HGN := Lib.hid hgone
  have hgl : (gone : Int) ≤ 18446744073709551615 := by omega
  clear hgone
  by_cases t6 : (n2 : Int) < gone
  · have HP2 : Is p (⟨b, t, kn, gs L⟩, false) := ⟨by rw [HP5.out, if_pos (by simp; omega)]⟩
    clear HP5
    obtain ⟨⟨c0, c1, c2, c3⟩, ⟨f0, f1, f2, f3⟩, hl0⟩ := M4.out.box4 1 rfl
    obtain ⟨⟨d0, d1, d2, d3⟩, _, hl1⟩ := M4.out.box4 3 rfl
    have hn02 : ¬ w.heap.size + 1 = w2.heap.size := M4.out.ne 1 3 rfl rfl (by decide)
    have hn20 : ¬ w2.heap.size = w.heap.size + 1 := fun e => hn02 e.symm
    go_wp2
    have MF := M4.out.put4 1 rfl (.int .u64 b) (.int .u64 t) (.int .u64 kn) (.slice A2 n2 cap2)
    refine bodyPost_ret (Bx.res_ct Tryz.results24 rfl (snd_load (MF.blk 1 rfl))) rfl ?_
    exact SndX.mk (by rw [HP2.out, HR.out]) (by rw [HP2.out]; rfl) (MF.row 2 rfl) (S4.out.put4 (Blk.of M4.out 1 rfl (by decide) HBB.out) _ _ _ _) MF.held
  have t6d : decide ((n2 : Int) < gone) = false := decide_eq_false t6
  have t6n : decide (n2 < gone) = false := decide_eq_false (by omega)
  have HP6 : Is p (if ackAt ⟨b, t, kn, gs L⟩ on ≠ some X then (⟨b, t, kn, gs L⟩, false) else (⟨on, t, X, (gs L).drop gone⟩, true)) := ⟨by rw [HP5.out, t6n]; rfl⟩
  clear HP5
  obtain ⟨k, hk⟩ : ∃ k, gone = k + 1 := ⟨gone - 1, by omega⟩
  have hk1 : (gone : Int) - 1 = (k : Int) := by omega
  have hk2 : (k : Int) < n2 := by omega
  have hk3 : (0 : Int) ≤ k := by omega
  obtain ⟨g, x, rfl, hge, hgl2, hxk, hxc⟩ := M4.out.slot 2 rfl segC_len (by decide) (k := k) (by rw [HRL.out]; omega)
  have x1 := (hxc 1 (by decide)).2 _ rfl
  have HA : Is (ackAt ⟨b, t, kn, gs L⟩ on) (some x.kn) := ⟨by rw [← HR.out]; exact ackAt_eq hxk (by rw [HGN.out]; omega)⟩
  have HP7 : Is p (if x.kn ≠ X then (⟨b, t, kn, gs L⟩, false) else (⟨on, t, X, (gs L).drop gone⟩, true)) := ⟨by rw [HP6.out, HA.out]; simp⟩
  obtain ⟨xk, hxe⟩ : ∃ xk, x.kn = xk := ⟨_, rfl⟩
  rw [hxe] at x1 HP7
  obtain ⟨⟨d0, d1, d2, d3⟩, _, hl1⟩ := M4.out.box4 3 rfl
  clear HP6 HA hxc hxk hxe HGN hk
  by_cases t7 : ¬ xk = X
  · have t7b : ((xk : Int) == X) = false := by rw [beq_eq_false_iff_ne]; omega
    have t7c : (xk == X) = false := by rw [beq_eq_false_iff_ne]; exact t7
    have HP2 : Is p (⟨b, t, kn, gs L⟩, false) := ⟨by rw [HP7.out, if_pos t7]⟩
    clear HP7 d0 d1 d2 d3 hl1
    obtain ⟨⟨c0, c1, c2, c3⟩, ⟨f0, f1, f2, f3⟩, hl0⟩ := M4.out.box4 1 rfl
    obtain ⟨⟨d0, d1, d2, d3⟩, _, hl1⟩ := M4.out.box4 3 rfl
    have hn02 : ¬ w.heap.size + 1 = w2.heap.size := M4.out.ne 1 3 rfl rfl (by decide)
    have hn20 : ¬ w2.heap.size = w.heap.size + 1 := fun e => hn02 e.symm
    go_wp2
    have MF := M4.out.put4 1 rfl (.int .u64 b) (.int .u64 t) (.int .u64 kn) (.slice (some ⟨g, 0, none⟩) n2 cap2)
    refine bodyPost_ret (Bx.res_ct Tryz.results24 rfl (snd_load (MF.blk 1 rfl))) rfl ?_
    exact SndX.mk (by rw [HP2.out, HR.out]) (by rw [HP2.out]; rfl) (MF.row 2 rfl) (S4.out.put4 (Blk.of M4.out 1 rfl (by decide) HBB.out) _ _ _ _) MF.held
  have t7 := Decidable.not_not.1 t7
  subst t7
  have HP2 : Is p (⟨on, t, xk, (gs L).drop gone⟩, true) := ⟨by rw [HP7.out, if_neg (by simp)]⟩
  clear HP7
  have HD := SlcSg.delete_any segC_len segC_one w.heap.size (.slice (some ⟨g, 0, none⟩) n2 cap2) R 0 gone w4 (M4.out.row 2 rfl) (by omega) (by rw [HRL.out]; omega) (by rw [HRL.out]; omega)
  rw [show ((0 : Nat) : Int) = 0 from rfl] at HD
  have HDD := Lib.hid HD
  clear HD
  go_wp2_with fail
  refine HDD.out.mono ?_
  rintro e w5 hgot
  obtain ⟨v', _, _, hgr, _⟩ := id hgot
  have kk := Chg.own (T := 70) (B := B) (M4.out.row 2 rfl) (by decide) HBB.out hgr
  obtain ⟨A5, cap5, rfl, hcp, M5'⟩ := M4.out.gotten 2 rfl hgot
  have hlen : (R.take 0 ++ R.drop gone).length = n2 - gone := by rw [List.take_zero, List.nil_append, List.length_drop, HRL.out]
  have hnil : R.take 0 ++ R.drop gone = R.drop gone := by rw [List.take_zero, List.nil_append]
  rw [hlen] at M5' hcp ⊢
  rw [hnil] at M5'
  have M5 := Lib.hid M5'
  have S5 := Lib.hid ((S4.out.chg kk).drop gone)
  clear HDD hgot hgr kk M5' M4 S4 hlen hnil a0 a1 a2 a3 hla d0 d1 d2 d3 hl1 x1
  obtain ⟨m5, hm5⟩ : ∃ m5, n2 - gone = m5 := ⟨_, rfl⟩
  rw [hm5] at M5 hcp ⊢
  clear hm5
  have MA := Lib.hid (M5.out.put 3 rfl 3 (.slice A5 m5 cap5))
  have MB := Lib.hid (MA.out.put 3 rfl 0 (.int .u64 on))
  have MC := Lib.hid (MB.out.put 3 rfl 2 (.int .u64 xk))
  have SA := Lib.hid (S5.out.put1 (Blk.of M5.out 3 rfl (by decide) HBB.out) 3 (.slice A5 m5 cap5))
  have SB := Lib.hid (SA.out.put1 (Blk.of MA.out 3 rfl (by decide) HBB.out) 0 (.int .u64 on))
  have SC := Lib.hid (SB.out.put1 (Blk.of MB.out 3 rfl (by decide) HBB.out) 2 (.int .u64 xk))
  obtain ⟨⟨c0, c1, c2, c3⟩, ⟨f0, f1, f2, f3⟩, hl0⟩ := M5.out.box4 1 rfl
  obtain ⟨⟨d0, d1, d2, d3⟩, ⟨g0, g1, g2, g3⟩, hl1⟩ := M5.out.box4 3 rfl
  have hn02 : ¬ w.heap.size + 1 = w2.heap.size := M5.out.ne 1 3 rfl rfl (by decide)
  have hn20 : ¬ w2.heap.size = w.heap.size + 1 := fun e => hn02 e.symm
  go_wp2
  have MF := MC.out.put4 1 rfl (.int .u64 on) (.int .u64 t) (.int .u64 xk) (.slice A5 m5 cap5)
  refine bodyPost_ret (Bx.res_ct Tryz.results24 rfl (snd_load (MF.blk 1 rfl))) rfl ?_
  exact SndX.mk (by rw [HP2.out, gs_drop, HR.out]) (by rw [HP2.out]; rfl) (MF.row 2 rfl) (SC.out.put4 (Blk.of MC.out 1 rfl (by decide) HBB.out) _ _ _ _) MF.held
end St
end Go.Proofs.YthpjbffhdaaibaaGreat
