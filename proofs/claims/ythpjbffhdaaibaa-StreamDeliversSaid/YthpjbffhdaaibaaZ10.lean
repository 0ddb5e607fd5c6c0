/-
  Contracts: copySender, copyReceiver, New of the program (chapter 24).
  Contracts: Sending of the program (chapter 24).
  Contracts: copyReceiver of the program (chapter 24).
  Contracts: Receiving, New, openBody, Reply of the program (chapter 24).
  Contracts: New, openBody, Reply of the program (chapter 24).
  Contracts: Reply, Packets of the program (chapter 24).
  Contracts: Push of the program (chapter 24).
-/
import Derived.Test.YthpjbffhdaaibaaZ9
import Derived.Test.YthpjbffhdaaibaaZ7
import Derived.RegionTactic
import Derived.BigRegion
import Derived.Lib.QuietBelow
import Derived.Deep.RegionHeld3
import Derived.Test.YthpjbffhdaaibaaZ1
set_option linter.unusedVariables false
set_option linter.unusedSimpArgs false
set_option maxRecDepth 100000
namespace Go.Proofs.Ythpjbffhdaaibaa
open Go.RowKit Go.BigFrame Go.Sort Go.Lib
namespace St
open Enc Uv Lg Lgc Strs
theorem snd_load {w : World} {b : Nat} {v1 v2 v3 v4 : Value} (h : w.heap[b]? = some (.cells #[v1, v2, v3, v4] 38 (0, 0))) : (loadVar 38 ⟨b, 0, none⟩).run Try.prog w = .ok (.agg #[v1, v2, v3, v4]) w := by
  have c0 := Bx.cell h 0 rfl
  have c1 := Bx.cell h 1 rfl
  have c2 := Bx.cell h 2 rfl
  have c3 := Bx.cell h 3 rfl
  simp [go_sem, c0, c1, c2, c3]
theorem rcv_load {w : World} {b : Nat} {v1 v2 v3 : Value} (h : w.heap[b]? = some (.cells #[v1, v2, v3] 41 (0, 0))) : (loadVar 41 ⟨b, 0, none⟩).run Try.prog w = .ok (.agg #[v1, v2, v3]) w := by
  have c0 := Bx.cell h 0 rfl
  have c1 := Bx.cell h 1 rfl
  have c2 := Bx.cell h 2 rfl
  simp [go_sem, c0, c1, c2]
/-- A queue of the call's own. -/
def OwnQ (B : Nat) (W w : World) (v : Value) (G : List Seg) : Prop := ∃ R, gs R = G ∧ Own 32 3 segC W.heap.size w v R ∧ Sgs B w R
def OwnE (B : Nat) (W w : World) (v : Value) (G : List Er) : Prop := ∃ R, ers R = G ∧ Own 87 4 erC W.heap.size w v R ∧ Ers B w R
def SndTo (B : Nat) (S : Snd) (w : World) (e : Ending) (w' : World) : Prop := ∃ A n cap, e = .returned (.agg #[.int .u64 S.b, .int .u64 S.t, .int .u64 S.kn, .slice A n cap]) ∧ OwnQ B w w' (.slice A n cap) S.q ∧ Held w w'
def RcvTo (B : Nat) (R : Rcv) (w : World) (e : Ending) (w' : World) : Prop := ∃ A n cap, e = .returned (.agg #[.int .u64 R.n, .int .u64 R.kn, .slice A n cap]) ∧ OwnE B w w' (.slice A n cap) R.e ∧ Held w w'
theorem alloc2_size (w : World) (o p : Obj) : ((w.alloc o).alloc p).heap.size = w.heap.size + 1 + 1 := by simp
theorem gs_len (R : List SR) : (gs R).length = R.length := List.length_map _
set_option maxHeartbeats 1000000 in
theorem copySender_any (b t kn : Nat) (A : Option Addr) (n cap : Nat) (L : List SR) (B : Nat) (w : World) (hB : B ≤ w.heap.size) (h : Sl 3 segC w A n L) (hg : Sgs B w L) (hn : n ≤ 1000000) :
    Calls Try.prog 47 #[.agg #[.int .u64 b, .int .u64 t, .int .u64 kn, .slice A n cap]] w (SndTo B ⟨b, t, kn, gs L⟩ w) := by
  have HS := Lib.hid h
  have HG := Lib.hid hg
  have HL : Is L.length n := ⟨h.1⟩
  have HBB := Lib.hid hB
  have hn2 : (n : Int) ≤ 1000000 := by omega
  have M : Hid (Mem w _ [.box w.heap.size #[.int .u64 b, .int .u64 t, .int .u64 kn, .slice A n cap] 38, .box (w.heap.size + 1) #[.int .u64 0, .int .u64 0, .int .u64 0, .slice none 0 0] 38]) :=
    ((Mem.start w).alloc' (b := w.heap.size) rfl _ _).alloc' (b := w.heap.size + 1) (by simp) _ _
  clear h hg hB
  go_enter Try.func47, Try.ntmps47
  go_wp2_with (at_make; refine Mem.wp_make0 (f := segC) M.out rfl _ _ 25 rfl (.agg #[.int .u64 0, .int .u64 0, .slice none 0 0]) 40 Try.underlying25 info_seg .i64 .i64 _ (n + 1) rfl rfl (by go_num) (by omega) (by unfold maxLen; omega) ?_; intro w7 M7 h7; rw [alloc2_size] at M7; have M8 := Lib.hid M7; clear M7; obtain ⟨⟨c0, c1, c2, c3⟩, _, hl0⟩ := M8.out.box4 0 rfl)
  clear M h7
  go_loopw [3, 14] (fun v i wr => ∃ (q : Nat) (R : List SR), i = .int .i64 (q : Int) ∧ q ≤ n ∧ R.length = q ∧ gs R = gs (L.take q) ∧ Sgs B wr R ∧ Mem w wr [.box w.heap.size #[.int .u64 b, .int .u64 t, .int .u64 kn, .slice A n cap] 38, .box (w.heap.size + 1) #[.int .u64 0, .int .u64 0, .int .u64 0, .slice none 0 0] 38, .row 32 3 segC w.heap.size v R]) (fun _ i _ => n - (RowKit.intOf i).toNat)
  case atStart => exact ⟨0, [], rfl, Nat.zero_le _, rfl, rfl, Sgs.nil _ _, M8.out⟩
  case round =>
    obtain ⟨q, R, rfl, hq, hRq, hRg, hRs, hM⟩ := hrel
    obtain ⟨A2, cap2, rfl, hcap2, _⟩ := (hM.row 2 rfl).shape
    have HRQ : Is R.length q := ⟨hRq⟩
    have HRG := Lib.hid hRg
    have HRS := Lib.hid hRs
    have M := Lib.hid hM
    rw [hRq] at M hcap2 ⊢
    clear hRg hRs hM hRq M8 c0 c1 c2 c3 hl0
    by_cases hlt : q < n
    · obtain ⟨b1, off, f', kn', A', n', cap', es', rfl, hb1, hx, x0, x1, x2⟩ := segAt HS.out M.out.held (k := q) hlt
      have z2 : (q : Int) < n := by omega
      have z3 : (0 : Int) ≤ q := by omega
      have SG := Lib.hid (HG.out.at_ hx)
      have HX := Lib.hid hx
      have hz := M.out.held.le
      have hbw : b1 < wr.heap.size := by omega
      have hbn : ¬ b1 = wr.heap.size := by omega
      have M2 := Lib.hid (M.out.alloc #[.int .u64 f', .int .u64 kn', .slice A' n' cap'] 32)
      have HC := Lib.hid (copy_any f' kn' A' n' cap' es' B (wr.alloc (.cells #[.int .u64 f', .int .u64 kn', .slice A' n' cap'] 32)) (SG.out.held M2.out.held))
      obtain ⟨⟨d0, d1, d2⟩, _, hd⟩ := M2.out.box3 3 rfl
      clear hx hb1 hz
      go_wp2_with fail
      refine HC.out.mono ?_
      rintro e w3 ⟨A3, n3, cap3, rfl, hs3, h3⟩
      dsimp only at hs3 ⊢
      have M3 := Lib.hid ((M2.out.keep h3).skip (.cells #[.int .u64 f', .int .u64 kn', .slice A3 n3 cap3] 32))
      have S3 := Lib.hid ((hs3 B).held ((Held.refl w3).alloc (.cells #[.int .u64 f', .int .u64 kn', .slice A3 n3 cap3] 32)))
      have R3 := Lib.hid (HRS.out.held ((((Held.refl wr).alloc _).step h3).alloc (.cells #[.int .u64 f', .int .u64 kn', .slice A3 n3 cap3] 32)))
      clear hs3 h3 HC M2 M HRS x0 x1 x2 d0 d1 d2 hd
      go_wp2_with (at_builtin; refine Mem.wp_appC M3.out 2 rfl rfl _ _ _ rfl _ 40 Try.underlying25 info_seg rfl (by decide) segC_len segC_one ⟨f', kn', A3, n3, cap3, es'⟩ ⟨w3.heap.size, 0, none⟩ 1 rfl rfl (cells_new _ rfl _ _) q HRQ.out (by omega) (by decide) ?_; intro g4 cp4 w4 M4' k4; have M4 := Lib.hid M4'; have K4 := Lib.hid k4; clear M4' k4)
      go_roundw
      case rel =>
        have kk := K4.out 106 B (by decide) HBB.out
        refine ⟨q + 1, R ++ [(⟨f', kn', A3, n3, cap3, es'⟩ : SR)], by go_num, by omega, by rw [List.length_append, HRQ.out]; rfl, ?_, (R3.out.chg kk).snoc (S3.out.chg kk), M4.out.take 3⟩
        have hql : q < L.length := by rw [HL.out]; exact hlt
        have hLq : L[q] = ⟨f', kn', A', n', cap', es'⟩ := by have := HX.out; rw [List.getElem?_eq_getElem hql] at this; injection this
        rw [List.take_succ_eq_append_getElem hql, hLq]
        have := HRG.out
        unfold gs at this ⊢
        rw [List.map_append, List.map_append, this]; rfl
      case measure => (simp [RowKit.intOf]) <;> omega
    · obtain rfl : q = n := by omega
      have z2 : ¬ (q : Int) < q := by omega
      obtain ⟨⟨c0, c1, c2, c3⟩, ⟨f0, f1, f2, f3⟩, hl0⟩ := M.out.box4 0 rfl
      obtain ⟨⟨d0, d1, d2, d3⟩, ⟨g0, g1, g2, g3⟩, hl1⟩ := M.out.box4 1 rfl
      have hne : ¬ w.heap.size = w.heap.size + 1 := by omega
      have hne2 : ¬ w.heap.size + 1 = w.heap.size := by omega
      go_wp2
      have MF := ((((M.out.put 0 rfl 3 (.slice A2 q cap2)).put 1 rfl 0 (.int .u64 b)).put 1 rfl 1 (.int .u64 t)).put 1 rfl 2 (.int .u64 kn)).put 1 rfl 3 (.slice A2 q cap2)
      refine bodyPost_ret (Bx.res_c Try.results47 rfl (snd_load (MF.blk 1 rfl))) rfl ?_
      have k1 := M.out.chgPut 0 rfl 3 (.slice A2 q cap2) (T := 106) (by decide) HBB.out
      have MA := M.out.put 0 rfl 3 (.slice A2 q cap2)
      have k2 := MA.chgPut 1 rfl 0 (.int .u64 b) (T := 106) (by decide) HBB.out
      have MB := MA.put 1 rfl 0 (.int .u64 b)
      have k3 := MB.chgPut 1 rfl 1 (.int .u64 t) (T := 106) (by decide) HBB.out
      have MC := MB.put 1 rfl 1 (.int .u64 t)
      have k4 := MC.chgPut 1 rfl 2 (.int .u64 kn) (T := 106) (by decide) HBB.out
      have MD := MC.put 1 rfl 2 (.int .u64 kn)
      have k5 := MD.chgPut 1 rfl 3 (.slice A2 q cap2) (T := 106) (by decide) HBB.out
      refine ⟨A2, q, cap2, rfl, ⟨R, ?_, MF.row 2 rfl, (((((HRS.out.chg k1).chg k2).chg k3).chg k4).chg k5)⟩, MF.held⟩
      have := HRG.out
      rw [List.take_of_length_le (by rw [HL.out]; exact Nat.le_refl _)] at this
      exact this
end St
end Go.Proofs.Ythpjbffhdaaibaa

set_option linter.unusedVariables false
set_option linter.unusedSimpArgs false
set_option maxRecDepth 100000
namespace Go.Proofs.Ythpjbffhdaaibaa
open Go.RowKit Go.BigFrame Go.Sort Go.Lib
namespace St
open Enc Uv Lg Lgc Strs
/-- The tests ahead of the queue. -/
theorem send_b {S : Snd} (h : ¬ (1 ≤ S.b ∧ S.b ≤ 4611686018427387904 ∧ S.q.length ≤ 8)) : sending S = false := by
  cases e : sending S
  · rfl
  · unfold sending at e
    simp only [Bool.and_eq_true, decide_eq_true_eq] at e
    exact absurd ⟨e.1.1.1, e.1.1.2, e.1.2⟩ h
theorem send_q {S : Snd} (h : 1 ≤ S.b ∧ S.b ≤ 4611686018427387904 ∧ S.q.length ≤ 8) : sending S = sendQ S := by
  unfold sending
  rw [decide_eq_true h.1, decide_eq_true h.2.1, decide_eq_true h.2.2]; rfl
theorem send_nil {b t kn : Nat} : sendQ ⟨b, t, kn, []⟩ = decide (kn ≤ t) := rfl
theorem send_cons {b t kn : Nat} {g : Seg} {l : List Seg} : sendQ ⟨b, t, kn, g :: l⟩ = (decide (kn ≤ g.f) && (chain g.f (g :: l) == some t)) := rfl
theorem chain_at {at_ : Nat} {L : List SR} {q : Nat} {x : SR} (h : L[q]? = some x) : chain at_ ((gs L).drop q) = if (decide (x.f = at_) && segOk x.g) = true then chain x.kn ((gs L).drop (q + 1)) else none := by
  obtain ⟨hl, rfl⟩ := List.getElem?_eq_some_iff.1 h
  have hl2 : q < (gs L).length := by rw [gs_len]; exact hl
  have e : (gs L)[q]'hl2 = L[q].g := List.getElem_map SR.g
  rw [List.drop_eq_getElem_cons hl2, chain, e]; rfl
theorem chain_end {at_ : Nat} {L : List SR} {q : Nat} (h : L.length = q) : chain at_ ((gs L).drop q) = some at_ := by
  rw [List.drop_of_length_le (by rw [gs_len]; omega)]; rfl
set_option maxHeartbeats 1000000 in
theorem sending_any (b t kn : Nat) (A : Option Addr) (n cap : Nat) (L : List SR) (B : Nat) (w : World) (h : Sl 3 segC w A n L) (hg : Sgs B w L) (hn : n ≤ 1000000) :
    Calls Try.prog 37 #[.agg #[.int .u64 b, .int .u64 t, .int .u64 kn, .slice A n cap]] w (BoolTo (sending ⟨b, t, kn, gs L⟩) w) := by
  have HS := Lib.hid h
  have HG := Lib.hid hg
  have HL : Is L.length n := ⟨h.1⟩
  have hn2 : (n : Int) ≤ 1000000 := by omega
  have hql : (gs L).length = n := by rw [gs_len]; exact h.1
  have HA := Lib.hid ((Held.refl w).alloc (.cells #[.int .u64 b, .int .u64 t, .int .u64 kn, .slice A n cap] 38))
  have HK := Lib.hid fun (w' : World) (k : Held (w.alloc (.cells #[.int .u64 b, .int .u64 t, .int .u64 kn, .slice A n cap] 38)) w') => And.intro (Bx.cell (Bx.held (Bx.new w _) k) 0 rfl) (And.intro (Bx.cell (Bx.held (Bx.new w _) k) 1 rfl) (And.intro (Bx.cell (Bx.held (Bx.new w _) k) 2 rfl) (Bx.cell (Bx.held (Bx.new w _) k) 3 rfl)))
  obtain ⟨r, hr⟩ : ∃ r, sending ⟨b, t, kn, gs L⟩ = r := ⟨_, rfl⟩
  rw [hr]
  have HNO : Hid (¬ (1 ≤ b ∧ b ≤ 4611686018427387904 ∧ n ≤ 8) → r = false) := fun h => by rw [← hr]; exact send_b (by simp only; rw [hql]; exact h)
  have HYES : Hid (1 ≤ b ∧ b ≤ 4611686018427387904 ∧ n ≤ 8 → r = sendQ ⟨b, t, kn, gs L⟩) := fun h => by rw [← hr]; exact send_q (by simp only; rw [hql]; exact h)
  clear h hg hr hql
  by_cases h1 : (b : Int) < 1
  · have HR := Lib.hid (HNO.out (by omega))
    clear HNO HYES
    go_enter Try.func37, Try.ntmps37
    go_wp2
    go_ret
    exact BoolTo.mk HR.out.symm HA.out
  have h1d : decide ((b : Int) < 1) = false := decide_eq_false h1
  by_cases h2 : (4611686018427387904 : Int) < b
  · have HR := Lib.hid (HNO.out (by omega))
    clear HNO HYES
    go_enter Try.func37, Try.ntmps37
    go_wp2
    go_ret
    exact BoolTo.mk HR.out.symm HA.out
  have h2d : decide ((4611686018427387904 : Int) < b) = false := decide_eq_false h2
  by_cases h3 : (8 : Int) < n
  · have HR := Lib.hid (HNO.out (by omega))
    clear HNO HYES
    go_enter Try.func37, Try.ntmps37
    go_wp2
    go_ret
    exact BoolTo.mk HR.out.symm HA.out
  have h3d : decide ((8 : Int) < n) = false := decide_eq_false h3
  have HR := Lib.hid (HYES.out (by omega))
  clear HNO HYES
  by_cases h0 : n = 0
  · subst h0
    have hL0 : L = [] := List.length_eq_zero_iff.1 HL.out
    have HR2 : Is r (decide (kn ≤ t)) := ⟨by rw [HR.out, hL0]; exact send_nil⟩
    clear HR hL0
    go_enter Try.func37, Try.ntmps37
    go_wp2
    go_ret
    exact BoolTo.mk (by first | exact HR2.out.symm | (rw [HR2.out, decide_eq_decide]; omega)) HA.out
  have h0d : ((n : Int) == 0) = false := by rw [beq_eq_false_iff_ne]; omega
  have h0p : (0 : Int) < n := by omega
  obtain ⟨b1, off, f0, kn0, A0, n0, cap0, es0, rfl, hb1, hx, x0, x1, x2⟩ := segAt HS.out HA.out (k := 0) (by omega)
  simp only [Nat.zero_mul, Nat.add_zero] at x0 x1 x2
  have hR3 : r = (decide (kn ≤ f0) && (chain f0 (gs L) == some t)) := by
    rw [HR.out]
    cases L with
    | nil => simp at hx
    | cons y L => simp only [List.getElem?_cons_zero, Option.some.injEq] at hx; subst hx; exact send_cons
  have HR3 := Lib.hid hR3
  have hbn : ¬ b1 = w.heap.size := by omega
  have hbn2 : b1 < w.heap.size + 1 := by omega
  clear HR hx hR3
  by_cases h4 : (f0 : Int) < kn
  · have HR4 : Is r false := ⟨by rw [HR3.out, decide_eq_false (by omega)]; rfl⟩
    clear HR3
    go_enter Try.func37, Try.ntmps37
    go_wp2
    go_region
    go_wp2
    go_ret
    exact BoolTo.mk HR4.out.symm HA.out.drew
  have h4d : decide ((f0 : Int) < kn) = false := decide_eq_false h4
  have h4n : decide (f0 < kn) = false := decide_eq_false (by omega)
  have HR4 : Is r (chain f0 (gs L) == some t) := ⟨by rw [HR3.out, decide_eq_true (by omega)]; rfl⟩
  clear HR3
  go_enter Try.func37, Try.ntmps37
  go_wp2
  go_region
  have HA2 := Lib.hid ((Held.refl (w.alloc (.cells #[.int .u64 b, .int .u64 t, .int .u64 kn, .slice (some ⟨b1, off, none⟩) n cap] 38))).drew)
  go_wp2
  go_loopw [3, 45] (fun a i wr => ∃ q at_ : Nat, a = .int .u64 (at_ : Int) ∧ i = .int .i64 (q : Int) ∧ q ≤ n ∧ chain f0 (gs L) = chain at_ ((gs L).drop q) ∧ Held (w.alloc (.cells #[.int .u64 b, .int .u64 t, .int .u64 kn, .slice (some ⟨b1, off, none⟩) n cap] 38)) wr) (fun _ i _ => n - (RowKit.intOf i).toNat)
  case atStart => exact ⟨0, f0, rfl, rfl, Nat.zero_le _, rfl, HA2.out⟩
  case round =>
    obtain ⟨q, at_, rfl, rfl, hq, hch, hh⟩ := hrel
    have HCH := Lib.hid hch
    have HH := Lib.hid (HA.out.step hh)
    obtain ⟨c0, c1, c2, c3⟩ := HK.out _ hh
    have HHA := Lib.hid hh
    clear hch hh x0 x1 x2 hbn hbn2
    by_cases hlt : q < n
    · obtain ⟨b1', off', f', kn', A', n', cap', es', he, hb1', hx, x0, x1, x2⟩ := segAt HS.out HH.out (k := q) hlt
      injection he with he
      injection he with he1 he2
      subst he1 he2
      have z2 : (q : Int) < n := by omega
      have z3 : (0 : Int) ≤ q := by omega
      have hz := HH.out.le
      have hbw : b1 < wr.heap.size := by omega
      have hbn : ¬ b1 = wr.heap.size := by omega
      have hwn : ¬ w.heap.size = wr.heap.size := by have := HHA.out.le; simp at this; omega
      have HC := Lib.hid (chain_at (at_ := at_) hx)
      have SG := Lib.hid (HG.out.at_ hx)
      have WN := Lib.hid ((Held.refl wr).alloc (.cells #[.int .u64 f', .int .u64 kn', .slice A' n' cap'] 32))
      clear hx hb1' hz
      by_cases he : f' = at_
      · subst he
        have HE := Lib.hid (encodes_any f' kn' A' n' cap' es' B (wr.alloc (.cells #[.int .u64 f', .int .u64 kn', .slice A' n' cap'] 32)) (SG.out.held (HH.out.step WN.out)))
        obtain ⟨so, hso⟩ : ∃ so, segOk ⟨f', kn', es'⟩ = so := ⟨_, rfl⟩
        rw [hso] at HE
        have HC2 : Is (chain f' ((gs L).drop q)) (if so = true then chain kn' ((gs L).drop (q + 1)) else none) := ⟨by rw [HC.out]; simp only [SR.g, decide_true, Bool.true_and, hso]⟩
        have hK2 := Bx.new wr (.cells #[.int .u64 f', .int .u64 kn', .slice A' n' cap'] 32)
        clear HC hso
        go_wp2_with fail
        refine HE.out.mono ?_
        rintro e w3 ⟨rfl, h3⟩
        have hK3 := Bx.held hK2 h3
        have d1 := Bx.cell hK3 1 rfl
        have HHB := Lib.hid ((HHA.out.step WN.out).step h3)
        obtain ⟨c0', c1', c2', c3'⟩ := HK.out _ HHB.out
        clear hK3 hK2 h3 HE x0 x1 x2 c0 c1 c2 c3
        cases so
        · have HR5 : Is r false := ⟨by rw [HR4.out, HCH.out, HC2.out]; rfl⟩
          clear HR4 HCH HC2
          go_wp2
          go_ret
          exact BoolTo.mk HR5.out.symm (HA.out.step HHB.out)
        · have HCH2 := Lib.hid (HCH.out.trans HC2.out)
          clear HC2 HCH
          go_wp2
          go_roundw
          case rel => exact ⟨q + 1, kn', rfl, by go_num, by omega, HCH2.out, HHB.out⟩
          case measure => (simp [RowKit.intOf]) <;> omega
      · have he1 : ((f' : Int) == at_) = false := by rw [beq_eq_false_iff_ne]; omega
        have he2 : (f' == at_) = false := by rw [beq_eq_false_iff_ne]; exact he
        have HR5 : Is r false := ⟨by rw [HR4.out, HCH.out, HC.out, if_neg (by simp [he])]; rfl⟩
        clear HR4 HCH HC
        go_wp2
        go_ret
        exact BoolTo.mk HR5.out.symm (HH.out.step WN.out)
    · obtain rfl : q = n := by omega
      have z2 : ¬ (q : Int) < q := by omega
      have HR5 : Is r (decide (at_ = t)) := ⟨by rw [HR4.out, HCH.out, chain_end HL.out]; by_cases e : at_ = t <;> simp [e]⟩
      clear HR4 HCH
      by_cases he : t = at_
      · subst he
        have HR6 : Is r true := ⟨by rw [HR5.out]; simp⟩
        clear HR5
        go_wp2
        go_ret
        exact BoolTo.mk HR6.out.symm HH.out
      · have he1 : ((t : Int) == at_) = false := by rw [beq_eq_false_iff_ne]; omega
        have he2 : (t == at_) = false := by rw [beq_eq_false_iff_ne]; exact he
        have HR6 : Is r false := ⟨by rw [HR5.out]; exact decide_eq_false (fun h => he h.symm)⟩
        clear HR5
        go_wp2
        go_ret
        exact BoolTo.mk HR6.out.symm HH.out
end St
end Go.Proofs.Ythpjbffhdaaibaa

set_option linter.unusedVariables false
set_option linter.unusedSimpArgs false
set_option maxRecDepth 100000
namespace Go.Proofs.Ythpjbffhdaaibaa
open Go.RowKit Go.BigFrame Go.Sort Go.Lib
namespace St
open Enc Uv Lg Lgc Strs
set_option maxHeartbeats 1000000 in
theorem copyReceiver_any (b kn : Nat) (A : Option Addr) (n cap : Nat) (L : List ErR) (B : Nat) (w : World) (hB : B ≤ w.heap.size) (h : Sl 4 erC w A n L) (hg : Ers B w L) (hn : n ≤ 1000000) :
    Calls Try.prog 39 #[.agg #[.int .u64 b, .int .u64 kn, .slice A n cap]] w (RcvTo B ⟨b, kn, ers L⟩ w) := by
  have HS := Lib.hid h
  have HG := Lib.hid hg
  have HL : Is L.length n := ⟨h.1⟩
  have HBB := Lib.hid hB
  have hn2 : (n : Int) ≤ 1000000 := by omega
  have M : Hid (Mem w _ [.box w.heap.size #[.int .u64 b, .int .u64 kn, .slice A n cap] 41, .box (w.heap.size + 1) #[.int .u64 0, .int .u64 0, .slice none 0 0] 41]) :=
    ((Mem.start w).alloc' (b := w.heap.size) rfl _ _).alloc' (b := w.heap.size + 1) (by simp) _ _
  clear h hg hB
  go_enter Try.func39, Try.ntmps39
  go_wp2_with (at_make; refine Mem.wp_make0 (f := erC) M.out rfl _ _ 39 rfl (.agg #[.int .u64 0, .int .u64 0, .int .u64 0, .slice none 0 0]) 48 Try.underlying39 info_er .i64 .i64 _ (n + 1) rfl rfl (by go_num) (by omega) (by unfold maxLen; omega) ?_; intro w7 M7 h7; rw [alloc2_size] at M7; have M8 := Lib.hid M7; clear M7; obtain ⟨⟨c0, c1, c2⟩, _, hl0⟩ := M8.out.box3 0 rfl)
  clear M h7
  go_loopw [3, 14] (fun v i wr => ∃ (q : Nat) (R : List ErR), i = .int .i64 (q : Int) ∧ q ≤ n ∧ R.length = q ∧ ers R = ers (L.take q) ∧ Ers B wr R ∧ Mem w wr [.box w.heap.size #[.int .u64 b, .int .u64 kn, .slice A n cap] 41, .box (w.heap.size + 1) #[.int .u64 0, .int .u64 0, .slice none 0 0] 41, .row 87 4 erC w.heap.size v R]) (fun _ i _ => n - (RowKit.intOf i).toNat)
  case atStart => exact ⟨0, [], rfl, Nat.zero_le _, rfl, rfl, Ers.nil _ _, M8.out⟩
  case round =>
    obtain ⟨q, R, rfl, hq, hRq, hRg, hRs, hM⟩ := hrel
    obtain ⟨A2, cap2, rfl, hcap2, _⟩ := (hM.row 2 rfl).shape
    have HRQ : Is R.length q := ⟨hRq⟩
    have HRG := Lib.hid hRg
    have HRS := Lib.hid hRs
    have M := Lib.hid hM
    rw [hRq] at M hcap2 ⊢
    clear hRg hRs hM hRq M8 c0 c1 c2 hl0
    by_cases hlt : q < n
    · obtain ⟨b1, off, s', f', kn', A', n', cap', es', rfl, hb1, hx, x0, x1, x2, x3⟩ := erAt HS.out M.out.held (k := q) hlt
      have z2 : (q : Int) < n := by omega
      have z3 : (0 : Int) ≤ q := by omega
      have SG := Lib.hid (HG.out.at_ hx).1
      have hsl := (HG.out.at_ hx).2
      have HX := Lib.hid hx
      have hz := M.out.held.le
      have hbw : b1 < wr.heap.size := by omega
      have hbn : ¬ b1 = wr.heap.size := by omega
      have M2 := Lib.hid (M.out.alloc #[.int .u64 s', .int .u64 f', .int .u64 kn', .slice A' n' cap'] 87)
      have HC := Lib.hid fun (w' : World) (k' : Held (wr.alloc (.cells #[.int .u64 s', .int .u64 f', .int .u64 kn', .slice A' n' cap'] 87)) w') => copy_any f' kn' A' n' cap' es' B w' (SG.out.held (M2.out.held.step k'))
      obtain ⟨⟨d0, d1, d2, d3⟩, _, hd⟩ := M2.out.box4 3 rfl
      obtain ⟨we, hwe⟩ : ∃ we, wr.alloc (.cells #[.int .u64 s', .int .u64 f', .int .u64 kn', .slice A' n' cap'] 87) = we := ⟨_, rfl⟩
      have R2 := Lib.hid (HRS.out.held ((Held.refl wr).alloc (.cells #[.int .u64 s', .int .u64 f', .int .u64 kn', .slice A' n' cap'] 87)))
      have HWE := Lib.hid hwe
      rw [hwe] at HC M2 d0 d1 d2 d3 hd R2
      clear hx hb1 hz hwe M HRS
      go_wp2
      rw [HWE.out]
      clear x0 x1 x2 x3
      go_region_held3 (fun w' => w'.cell? ⟨wr.heap.size, 0, none⟩ = some (.int .u64 s') ∧ w'.cell? ⟨wr.heap.size, 1, none⟩ = some (.int .u64 f') ∧ w'.cell? ⟨wr.heap.size, 2, none⟩ = some (.int .u64 kn') ∧ w'.cell? ⟨wr.heap.size, 3, none⟩ = some (.slice A' n' cap'))
        ((repeat' refine And.intro ?_ ?_) <;> first | exact d0 | exact d1 | exact d2 | exact d3 | exact p0 | exact p1 | exact p2 | exact p3 | exact q0 | exact q1 | exact q2 | exact q3 | exact r0 | exact r1 | exact r2 | exact r3)
        (first
        | (go_at_call 49; refine (HC.out _ (Held.refl we).drew).mono ?_; rintro e w3 ⟨A3, n3, cap3, rfl, hs3, h3⟩; dsimp only at hs3 ⊢; have M3 := Lib.hid ((M2.out.drew.keep h3)); obtain ⟨⟨p0, p1, p2, p3⟩, _, _⟩ := M3.out.box4 3 rfl; have M3b := Lib.hid (M3.out.skip (.cells #[.int .u64 s', .int .u64 f', .int .u64 kn', .slice A3 n3 cap3] 87)); have S3 := Lib.hid ((hs3 B).held ((Held.refl w3).alloc (.cells #[.int .u64 s', .int .u64 f', .int .u64 kn', .slice A3 n3 cap3] 87))); have R3 := Lib.hid (R2.out.held (((Held.refl we).drew.step h3).alloc (.cells #[.int .u64 s', .int .u64 f', .int .u64 kn', .slice A3 n3 cap3] 87))); obtain ⟨⟨q0, q1, q2, q3⟩, _, _⟩ := M3b.out.box4 3 rfl; clear hs3 h3)
        | (refine Mem.step_appC M3b.out 2 rfl (by rfl) _ _ _ (by rfl) _ 48 Try.underlying39 info_er (by rfl) (by decide) erC_len erC_one ⟨s', f', kn', A3, n3, cap3, es'⟩ ⟨w3.heap.size, 0, none⟩ 1 (by rfl) (by rfl) (cells_new _ rfl _ _) q HRQ.out (by omega) (by decide) ?_; intro g4 cp4 w4 M4' k4; have M4 := Lib.hid M4'; have K4 := Lib.hid k4; obtain ⟨⟨r0, r1, r2, r3⟩, _, _⟩ := M4'.box4 3 rfl; clear M4' k4))
      go_wp2
      go_roundw
      case rel =>
        have kk := K4.out 106 B (by decide) HBB.out
        refine ⟨q + 1, R ++ [(⟨s', f', kn', A3, n3, cap3, es'⟩ : ErR)], by go_num, by omega, by rw [List.length_append, HRQ.out]; rfl, ?_, (R3.out.chg kk).snoc ⟨S3.out.chg kk, hsl⟩, M4.out.take 3⟩
        have hql : q < L.length := by rw [HL.out]; exact hlt
        have hLq : L[q] = ⟨s', f', kn', A', n', cap', es'⟩ := by have := HX.out; rw [List.getElem?_eq_getElem hql] at this; injection this
        rw [List.take_succ_eq_append_getElem hql, hLq]
        have := HRG.out
        unfold ers at this ⊢
        rw [List.map_append, List.map_append, this]; rfl
      case measure => (simp [RowKit.intOf]) <;> omega
    · obtain rfl : q = n := by omega
      have z2 : ¬ (q : Int) < q := by omega
      obtain ⟨⟨c0, c1, c2⟩, ⟨f0, f1, f2⟩, hl0⟩ := M.out.box3 0 rfl
      obtain ⟨⟨d0, d1, d2⟩, ⟨g0, g1, g2⟩, hl1⟩ := M.out.box3 1 rfl
      have hne : ¬ w.heap.size = w.heap.size + 1 := by omega
      have hne2 : ¬ w.heap.size + 1 = w.heap.size := by omega
      go_wp2
      have MF := (((M.out.put 0 rfl 2 (.slice A2 q cap2)).put 1 rfl 0 (.int .u64 b)).put 1 rfl 1 (.int .u64 kn)).put 1 rfl 2 (.slice A2 q cap2)
      refine bodyPost_ret (Bx.res_c Try.results39 rfl (rcv_load (MF.blk 1 rfl))) rfl ?_
      have k1 := M.out.chgPut 0 rfl 2 (.slice A2 q cap2) (T := 106) (by decide) HBB.out
      have MA := M.out.put 0 rfl 2 (.slice A2 q cap2)
      have k2 := MA.chgPut 1 rfl 0 (.int .u64 b) (T := 106) (by decide) HBB.out
      have MB := MA.put 1 rfl 0 (.int .u64 b)
      have k3 := MB.chgPut 1 rfl 1 (.int .u64 kn) (T := 106) (by decide) HBB.out
      have MC := MB.put 1 rfl 1 (.int .u64 kn)
      have k4 := MC.chgPut 1 rfl 2 (.slice A2 q cap2) (T := 106) (by decide) HBB.out
      refine ⟨A2, q, cap2, rfl, ⟨R, ?_, MF.row 2 rfl, ((((HRS.out.chg k1).chg k2).chg k3).chg k4)⟩, MF.held⟩
      have := HRG.out
      rw [List.take_of_length_le (by rw [HL.out]; exact Nat.le_refl _)] at this
      exact this
end St
end Go.Proofs.Ythpjbffhdaaibaa

set_option linter.unusedVariables false
set_option linter.unusedSimpArgs false
set_option maxRecDepth 100000
namespace Go.Proofs.Ythpjbffhdaaibaa
open Go.RowKit Go.BigFrame Go.Sort Go.Lib
namespace St
open Enc Uv Lg Lgc Strs
theorem rcv_b {R : Rcv} (h : ¬ (1 ≤ R.n ∧ R.n ≤ 4611686018427387904 ∧ R.e.length ≤ 7)) : receiving R = false := by
  cases e : receiving R
  · rfl
  · unfold receiving at e
    simp only [Bool.and_eq_true, decide_eq_true_eq] at e
    exact absurd ⟨e.1.1.1, e.1.1.2, e.1.2⟩ h
theorem rcv_q {R : Rcv} (h : 1 ≤ R.n ∧ R.n ≤ 4611686018427387904 ∧ R.e.length ≤ 7) : receiving R = asc R.n R.n R.e := by
  unfold receiving
  rw [decide_eq_true h.1, decide_eq_true h.2.1, decide_eq_true h.2.2]; rfl
theorem ers_len (R : List ErR) : (ers R).length = R.length := List.length_map _
theorem asc_at {n a : Nat} {L : List ErR} {q : Nat} {x : ErR} (h : L[q]? = some x) : asc n a ((ers L).drop q) = (decide (a < x.s) && decide (x.s < n + 8) && segOk x.x.g && asc n x.s ((ers L).drop (q + 1))) := by
  obtain ⟨hl, rfl⟩ := List.getElem?_eq_some_iff.1 h
  have hl2 : q < (ers L).length := by rw [ers_len]; exact hl
  have e : (ers L)[q]'hl2 = L[q].e := List.getElem_map ErR.e
  rw [List.drop_eq_getElem_cons hl2, asc, e]; rfl
theorem asc_end {n a : Nat} {L : List ErR} {q : Nat} (h : L.length = q) : asc n a ((ers L).drop q) = true := by
  rw [List.drop_of_length_le (by rw [ers_len]; omega)]; rfl
set_option maxHeartbeats 1000000 in
theorem receiving_any (b kn : Nat) (A : Option Addr) (n cap : Nat) (L : List ErR) (B : Nat) (w : World) (h : Sl 4 erC w A n L) (hg : Ers B w L) (hn : n ≤ 1000000) :
    Calls Try.prog 41 #[.agg #[.int .u64 b, .int .u64 kn, .slice A n cap]] w (BoolTo (receiving ⟨b, kn, ers L⟩) w) := by
  have HS := Lib.hid h
  have HG := Lib.hid hg
  have HL : Is L.length n := ⟨h.1⟩
  have hn2 : (n : Int) ≤ 1000000 := by omega
  have hql : (ers L).length = n := by rw [ers_len]; exact h.1
  have HA := Lib.hid ((Held.refl w).alloc (.cells #[.int .u64 b, .int .u64 kn, .slice A n cap] 41))
  have HK := Lib.hid fun (w' : World) (k : Held (w.alloc (.cells #[.int .u64 b, .int .u64 kn, .slice A n cap] 41)) w') => And.intro (Bx.cell (Bx.held (Bx.new w _) k) 0 rfl) (And.intro (Bx.cell (Bx.held (Bx.new w _) k) 1 rfl) (Bx.cell (Bx.held (Bx.new w _) k) 2 rfl))
  obtain ⟨r, hr⟩ : ∃ r, receiving ⟨b, kn, ers L⟩ = r := ⟨_, rfl⟩
  rw [hr]
  have HNO : Hid (¬ (1 ≤ b ∧ b ≤ 4611686018427387904 ∧ n ≤ 7) → r = false) := fun h => by rw [← hr]; exact rcv_b (by simp only; rw [hql]; exact h)
  have HYES : Hid (1 ≤ b ∧ b ≤ 4611686018427387904 ∧ n ≤ 7 → r = asc b b (ers L)) := fun h => by rw [← hr]; exact rcv_q (by simp only; rw [hql]; exact h)
  clear h hg hr hql
  by_cases h1 : (b : Int) < 1
  · have HR := Lib.hid (HNO.out (by omega))
    clear HNO HYES
    go_enter Try.func41, Try.ntmps41
    go_wp2
    go_ret
    exact BoolTo.mk HR.out.symm HA.out
  have h1d : decide ((b : Int) < 1) = false := decide_eq_false h1
  by_cases h2 : (4611686018427387904 : Int) < b
  · have HR := Lib.hid (HNO.out (by omega))
    clear HNO HYES
    go_enter Try.func41, Try.ntmps41
    go_wp2
    go_ret
    exact BoolTo.mk HR.out.symm HA.out
  have h2d : decide ((4611686018427387904 : Int) < b) = false := decide_eq_false h2
  by_cases h3 : (7 : Int) < n
  · have HR := Lib.hid (HNO.out (by omega))
    clear HNO HYES
    go_enter Try.func41, Try.ntmps41
    go_wp2
    go_ret
    exact BoolTo.mk HR.out.symm HA.out
  have h3d : decide ((7 : Int) < n) = false := decide_eq_false h3
  have HR := Lib.hid (HYES.out (by omega))
  clear HNO HYES
  have hb8 : (b : Int) + 8 ≤ 18446744073709551615 := by omega
  have hb0 : (0 : Int) ≤ (b : Int) + 8 := by omega
  go_enter Try.func41, Try.ntmps41
  go_wp2
  go_loopw [3, 25] (fun a i wr => ∃ q at_ : Nat, a = .int .u64 (at_ : Int) ∧ i = .int .i64 (q : Int) ∧ q ≤ n ∧ asc b b (ers L) = asc b at_ ((ers L).drop q) ∧ Held (w.alloc (.cells #[.int .u64 b, .int .u64 kn, .slice A n cap] 41)) wr) (fun _ i _ => n - (RowKit.intOf i).toNat)
  case atStart => exact ⟨0, b, rfl, rfl, Nat.zero_le _, rfl, Held.refl _⟩
  case round =>
    obtain ⟨q, at_, rfl, rfl, hq, hch, hh⟩ := hrel
    have HCH := Lib.hid hch
    have HH := Lib.hid (HA.out.step hh)
    obtain ⟨c0, c1, c2⟩ := HK.out _ hh
    have HHA := Lib.hid hh
    clear hch hh
    by_cases hlt : q < n
    · obtain ⟨b1, off, s', f', kn', A', n', cap', es', rfl, hb1, hx, x0, x1, x2, x3⟩ := erAt HS.out HH.out (k := q) hlt
      have z2 : (q : Int) < n := by omega
      have z3 : (0 : Int) ≤ q := by omega
      have hz := HH.out.le
      have hbw : b1 < wr.heap.size := by omega
      have hbn : ¬ b1 = wr.heap.size := by omega
      have hwn : ¬ w.heap.size = wr.heap.size := by have := HHA.out.le; simp at this; omega
      have hwl : w.heap.size < wr.heap.size := by have := HHA.out.le; simp at this; omega
      have HC := Lib.hid (asc_at (n := b) (a := at_) hx)
      have SG := Lib.hid (HG.out.at_ hx).1
      have WN := Lib.hid ((Held.refl wr).alloc (.cells #[.int .u64 s', .int .u64 f', .int .u64 kn', .slice A' n' cap'] 87))
      have hK2 := Bx.new wr (.cells #[.int .u64 s', .int .u64 f', .int .u64 kn', .slice A' n' cap'] 87)
      have HE := Lib.hid (encodes_any f' kn' A' n' cap' es' B (wr.alloc (.cells #[.int .u64 s', .int .u64 f', .int .u64 kn', .slice A' n' cap'] 87)) (SG.out.held (HH.out.step WN.out)))
      obtain ⟨so, hso⟩ : ∃ so, segOk ⟨f', kn', es'⟩ = so := ⟨_, rfl⟩
      rw [hso] at HE
      have HC2 : Is (asc b at_ ((ers L).drop q)) (decide (at_ < s') && decide (s' < b + 8) && so && asc b s' ((ers L).drop (q + 1))) := ⟨by rw [HC.out]; simp only [SR.g, hso]⟩
      clear hx hb1 hz HC hso
      by_cases t1 : (s' : Int) ≤ at_
      · have HR5 : Is r false := ⟨by rw [HR.out, HCH.out, HC2.out, decide_eq_false (show ¬ at_ < s' by omega)]; rfl⟩
        clear HR HCH HC2 HE
        go_wp2
        go_ret
        exact BoolTo.mk HR5.out.symm (HH.out.step WN.out)
      have t1d : decide ((s' : Int) ≤ at_) = false := decide_eq_false t1
      have t1n : decide (s' ≤ at_) = false := decide_eq_false (by omega)
      by_cases t2 : (b : Int) + 8 ≤ s'
      · have HR5 : Is r false := ⟨by rw [HR.out, HCH.out, HC2.out, decide_eq_false (show ¬ s' < b + 8 by omega)]; simp⟩
        clear HR HCH HC2 HE
        go_wp2
        go_ret
        exact BoolTo.mk HR5.out.symm (HH.out.step WN.out)
      have t2d : decide ((b : Int) + 8 ≤ s') = false := decide_eq_false t2
      have HC3 : Is (asc b at_ ((ers L).drop q)) (so && asc b s' ((ers L).drop (q + 1))) := ⟨by rw [HC2.out, decide_eq_true (show at_ < s' by omega), decide_eq_true (show s' < b + 8 by omega)]; rfl⟩
      clear HC2
      go_wp2_with fail
      refine HE.out.mono ?_
      rintro e w3 ⟨rfl, h3⟩
      have hK3 := Bx.held hK2 h3
      have d0 := Bx.cell hK3 0 rfl
      have HHB := Lib.hid ((HHA.out.step WN.out).step h3)
      obtain ⟨c0', c1', c2'⟩ := HK.out _ HHB.out
      clear hK3 hK2 h3 HE x0 x1 x2 x3 c0 c1 c2
      cases so
      · have HR5 : Is r false := ⟨by rw [HR.out, HCH.out, HC3.out]; rfl⟩
        clear HR HCH HC3
        go_wp2
        go_ret
        exact BoolTo.mk HR5.out.symm (HA.out.step HHB.out)
      · have HCH2 := Lib.hid (HCH.out.trans HC3.out)
        clear HC3 HCH
        go_wp2
        go_roundw
        case rel => exact ⟨q + 1, s', rfl, by go_num, by omega, by rw [HCH2.out]; rfl, HHB.out⟩
        case measure => (simp [RowKit.intOf]) <;> omega
    · obtain rfl : q = n := by omega
      have z2 : ¬ (q : Int) < q := by omega
      have HR5 : Is r true := ⟨by rw [HR.out, HCH.out, asc_end HL.out]⟩
      clear HR HCH
      go_wp2
      go_ret
      exact BoolTo.mk HR5.out.symm HH.out
end St
end Go.Proofs.Ythpjbffhdaaibaa

set_option linter.unusedVariables false
set_option linter.unusedSimpArgs false
set_option maxRecDepth 100000
namespace Go.Proofs.Ythpjbffhdaaibaa
open Go.RowKit Go.BigFrame Go.Sort Go.Lib
namespace St
open Enc Uv Lg Lgc Strs
theorem res_cc {fn : Func} {tmps : Array Value} {w : World} {a b a' b' : Nat} {t t' : TypeId} {v v' : Value} (hr : fn.results = #[.cell a t, .cell a' t']) (ha : tmps.getD a undef = .pointer (some ⟨b, 0, none⟩)) (ha' : tmps.getD a' undef = .pointer (some ⟨b', 0, none⟩)) (hl : (loadVar t ⟨b, 0, none⟩).run Try.prog w = .ok v w) (hl' : (loadVar t' ⟨b', 0, none⟩).run Try.prog w = .ok v' w) : (results fn tmps).run Try.prog w = .ok (.tuple #[v, v']) w := by
  unfold results
  rw [hr]
  simp only [List.mapM_toArray, List.mapM_cons, List.mapM_nil, ha, ha', asAddr, pure_bind, Sem.run_bind, Sem.run_map, hl, hl', Result.andThen_ok, Sem.run_pure, map_pure]
  rfl
/-- Both sides of a new stream. -/
def NewTo (at_ : Nat) (w : World) (e : Ending) (w' : World) : Prop := e = .returned (.tuple #[.agg #[.int .u64 1, .int .u64 at_, .int .u64 at_, .slice none 0 0], .agg #[.int .u64 1, .int .u64 at_, .slice none 0 0]]) ∧ Held w w'
theorem new_any (at_ : Nat) (w : World) : Calls Try.prog 27 #[.int .u64 at_] w (NewTo at_ w) := by
  have M : Hid (Mem w ((w.alloc (.cells #[.int .u64 1, .int .u64 at_, .int .u64 at_, .slice none 0 0] 38)).alloc (.cells #[.int .u64 1, .int .u64 at_, .slice none 0 0] 41)) [.box w.heap.size #[.int .u64 1, .int .u64 at_, .int .u64 at_, .slice none 0 0] 38, .box (w.heap.size + 1) #[.int .u64 1, .int .u64 at_, .slice none 0 0] 41]) :=
    ((Mem.start w).alloc' (b := w.heap.size) rfl _ _).alloc' (b := w.heap.size + 1) (by simp) _ _
  go_enter Try.func27, Try.ntmps27
  go_wp2
  refine bodyPost_ret (res_cc Try.results27 rfl rfl (snd_load (M.out.blk 0 rfl)) (rcv_load (M.out.blk 1 rfl))) rfl ?_
  exact ⟨rfl, M.out.held⟩
theorem opens_len (l : List UInt8) : (opens l).2.1.length ≤ l.length := by
  have h1 := numR_len l false
  have h2 := (dataR_len (numR l false).2.1 (numR l false).2.2).1
  unfold opens
  split
  · exact Nat.zero_le _
  · split
    · exact Nat.zero_le _
    · show (opR l).1.length ≤ _
      unfold opR; omega
theorem opened_len (l : List UInt8) (m : UInt8) : (opened l m).2.1.length ≤ l.length := by
  have h := opens_len l
  unfold opened opened1
  split
  · exact Nat.zero_le _
  · split
    · exact Nat.zero_le _
    · rename_i c t e
      split
      · simp only; rw [e, List.length_cons] at h; omega
      · exact Nat.zero_le _
/-- A call hands back what a packet holds. -/
def OpenTo (r : Nat × List UInt8 × Bool) (w : World) (e : Ending) (w' : World) : Prop := ∃ s : ByteArray, e = .returned (.tuple #[.int .u64 r.1, .string s, .bool r.2.2]) ∧ s.data.toList = r.2.1 ∧ Held w w'
theorem OpenTo.mk {r : Nat × List UInt8 × Bool} {n : Nat} {s : ByteArray} {b : Bool} {w w' : World} (h : r = (n, s.data.toList, b)) (k : Held w w') : OpenTo r w (.returned (.tuple #[.int .u64 n, .string s, .bool b])) w' := by
  subst h; exact ⟨s, rfl, rfl, k⟩
set_option maxHeartbeats 1000000 in
theorem openBody_any (s : ByteArray) (m : UInt8) (hs : (s.size : Int) ≤ 1000000000000) (w : World) : Calls Try.prog 40 #[.string s, .int .u8 (m.toNat : Int)] w (OpenTo (opened s.data.toList m) w) := by
  have HO := Lib.hid (open_any s hs w)
  have HB : Is (opened s.data.toList m) (opened1 (opens s.data.toList) m) := ⟨rfl⟩
  obtain ⟨o, ho⟩ : ∃ o, opened s.data.toList m = o := ⟨_, rfl⟩
  obtain ⟨p, hp⟩ : ∃ p, opens s.data.toList = p := ⟨_, rfl⟩
  have hpl : p.2.1.length ≤ s.size := by rw [← hp, ← len_eq]; exact opens_len _
  rw [hp] at HO HB
  rw [ho] at HB ⊢
  obtain ⟨n, bd, er⟩ := p
  dsimp only at hpl
  clear hp ho
  go_enter Try.func40, Try.ntmps40
  go_wp2_with fail
  refine HO.out.mono ?_
  rintro e w2 ⟨rfl, h2⟩
  have W2 := Lib.hid h2
  clear h2 HO
  dsimp only
  by_cases her : ¬ er = 0
  · have her2 : (er == 0) = false := by rw [beq_eq_false_iff_ne]; exact her
    have HB2 : Is o (0, [], false) := ⟨by rw [HB.out]; unfold opened1; rw [if_pos her]⟩
    clear HB
    go_wp2
    go_ret3
    exact OpenTo.mk (by rw [HB2.out]) W2.out
  have her := Decidable.not_not.1 her
  subst her
  cases bd with
  | nil =>
    have HB2 : Is o (0, [], false) := ⟨by rw [HB.out]; rfl⟩
    clear HB
    go_wp2
    go_ret3
    exact OpenTo.mk (by rw [HB2.out]) W2.out
  | cons c tl =>
    have HB2 : Is o (if c = m then (n, tl, true) else (0, [], false)) := ⟨by rw [HB.out]; rfl⟩
    clear HB
    obtain ⟨bs, hbs⟩ : ∃ bs : ByteArray, bs = ⟨(c :: tl).toArray⟩ := ⟨_, rfl⟩
    rw [← hbs]
    have hbl : bs.data.toList = c :: tl := by rw [hbs]
    have hsz : bs.size = tl.length + 1 := by rw [← len_eq, hbl]; rfl
    have hne : (bs.toList == []) = false := by rw [ByteArray.toList_eq, hbl]; rfl
    have hpos : (0 : Int) < bs.size := by omega
    have hpos2 : (1 : Int) ≤ bs.size := by omega
    have h0 : bs[0]'(by omega) = c := by
      have : bs.data.toList[0]'(by rw [hbl]; exact Nat.zero_lt_succ _) = c := by simp [hbl]
      rw [Array.getElem_toList] at this
      exact this
    clear hbs
    by_cases hc : c = m
    · have HB3 : Is o (n, tl, true) := ⟨by rw [HB2.out, if_pos hc]⟩
      clear HB2
      go_wp2
      go_region
      go_wp2
      go_ret3
      exact OpenTo.mk (by rw [HB3.out, ← hsz, ext_drop, hbl]; rfl) W2.out.drew
    · have HB3 : Is o (0, [], false) := ⟨by rw [HB2.out, if_neg hc]⟩
      have hcb : (c == m) = false := by rw [beq_eq_false_iff_ne]; exact hc
      have hcn : ¬ c.toNat = m.toNat := fun e => hc (UInt8.toNat_inj.1 e)
      have hcz : ((c.toNat : Int) == m.toNat) = false := by rw [beq_eq_false_iff_ne]; omega
      clear HB2
      go_wp2
      go_ret3
      exact OpenTo.mk (by rw [HB3.out]) W2.out
end St
end Go.Proofs.Ythpjbffhdaaibaa

set_option linter.unusedVariables false
set_option linter.unusedSimpArgs false
set_option maxRecDepth 100000
namespace Go.Proofs.Ythpjbffhdaaibaa
open Go.RowKit Go.BigFrame Go.Sort Go.Lib
namespace St
open Enc Uv Lg Lgc Strs
theorem mark_list (c : UInt8) (l : List UInt8) : ((⟨#[c]⟩ : ByteArray) ++ ⟨l.toArray⟩).data.toList = c :: l := by simp
theorem mark_size (c : UInt8) (l : List UInt8) : ((⟨#[c]⟩ : ByteArray) ++ ⟨l.toArray⟩).size = l.length + 1 := by rw [← len_eq, mark_list]; rfl
set_option maxHeartbeats 1000000 in
theorem reply_any (b kn : Nat) (A : Option Addr) (n cap : Nat) (L : List ErR) (B : Nat) (w : World) (h : Sl 4 erC w A n L) (hg : Ers B w L) (hn : n ≤ 1000000) (hb : (b : Int) ≤ 18446744073709551615) (hk : (kn : Int) ≤ 18446744073709551615) :
    Calls Try.prog 18 #[.agg #[.int .u64 b, .int .u64 kn, .slice A n cap]] w (MakesS (reply ⟨b, kn, ers L⟩) w) := by
  have HA := Lib.hid ((Held.refl w).alloc (.cells #[.int .u64 b, .int .u64 kn, .slice A n cap] 41))
  have H1 := Lib.hid (receiving_any b kn A n cap L B (w.alloc (.cells #[.int .u64 b, .int .u64 kn, .slice A n cap] 41)) (h.held HA.out) (fun x hx => ⟨((hg x hx).1.held HA.out), (hg x hx).2⟩) hn)
  have HK := Lib.hid fun (w' : World) (k : Held (w.alloc (.cells #[.int .u64 b, .int .u64 kn, .slice A n cap] 41)) w') => And.intro (Bx.cell (Bx.held (Bx.new w _) k) 0 rfl) (Bx.cell (Bx.held (Bx.new w _) k) 1 rfl)
  have HB : Is (reply ⟨b, kn, ers L⟩) (if receiving ⟨b, kn, ers L⟩ = true then packed b (65 :: put kn) else []) := ⟨rfl⟩
  obtain ⟨r, hr⟩ : ∃ r, reply ⟨b, kn, ers L⟩ = r := ⟨_, rfl⟩
  obtain ⟨v, hv⟩ : ∃ v, receiving ⟨b, kn, ers L⟩ = v := ⟨_, rfl⟩
  rw [hv] at H1 HB
  rw [hr] at HB ⊢
  have lp := put_len kn (by omega)
  have P1 := Lib.hid fun w => put_any kn hk w
  have P2 := Lib.hid fun w => pack_any b (⟨#[65]⟩ ++ ⟨(put kn).toArray⟩) hb (by rw [mark_size]; omega) w
  rw [mark_list] at P2
  generalize put kn = p at P1 P2 HB lp
  obtain ⟨q, hq⟩ : ∃ q, packed b (65 :: p) = q := ⟨_, rfl⟩
  rw [hq] at P2 HB
  clear hr hv hq h hg
  go_enter Try.func18, Try.ntmps18
  go_wp2_with fail
  refine H1.out.mono ?_
  rintro e w2 ⟨rfl, h2⟩
  obtain ⟨c0, c1⟩ := HK.out _ h2
  have W2 := Lib.hid (HA.out.step h2)
  clear h2 H1
  cases v
  · have HB2 : Is r [] := ⟨HB.out⟩
    clear HB
    go_wp2
    go_ret
    exact ⟨by rw [HB2.out]; rfl, W2.out⟩
  · have HB2 : Is r q := ⟨HB.out⟩
    clear HB
    go_wp2
    have k0 := cell_regrown c0
    have k1 := cell_regrown c1
    have cA := Lib.hid fun d os => Calls.regrown_of (d := d) (os := os) (P1.out (grow (redrawn w2 d) os))
    have cB := Lib.hid fun d os => Calls.regrown_of (d := d) (os := os) (P2.out (grow (redrawn w2 d) os))
    clear c0 c1
    refine wp_region_quiet_below (by kernel_rfl) (by kernel_rfl) ?_
    repeat (go_big_quiet_step (first | (go_at_call 30; with_reducible exact cA.out _ _) | (go_at_call 38; first | (with_reducible exact cB.out _ _) | exact cB.out _ _)))
    refine wpQuiet_nil ?_
    intro _ hw'
    obtain ⟨⟨dq, osq⟩, hw''⟩ := hw'
    subst hw''
    have W3 := Lib.hid (W2.out.step (below_regrown w2 dq osq))
    clear k0 k1 cA cB
    go_wp2
    go_ret
    exact ⟨by rw [HB2.out]; rfl, W3.out⟩
def stC (s : ByteArray) : List Value := [.string s]
theorem stC_len (x : ByteArray) : (stC x).length = 1 := rfl
theorem stC_one (x : ByteArray) : ∀ u ∈ stC x, u.oneCell' = true := by
  intro u hu
  simp only [stC, List.mem_singleton] at hu
  subst hu; rfl
theorem info_str : (Try.prog.info? 9).map (fun i => (i.zero, i.size, i.bytes)) = some (some (.string ⟨#[]⟩), 1, 16) := by kernel_rfl
def strs (L : List (List UInt8)) : List ByteArray := L.map fun l => ⟨l.toArray⟩
/-- A call hands back a list of strings of its own. -/
def StrsTo (L : List (List UInt8)) (w : World) (e : Ending) (w' : World) : Prop := ∃ A n cap, e = .returned (.slice A n cap) ∧ Own 9 1 stC w.heap.size w' (.slice A n cap) (strs L) ∧ Held w w'
theorem packs_snoc (b : Nat) : ∀ (G : List Seg) (g : Seg), packs b (G ++ [g]) = packs b G ++ [dataP (b + G.length) g]
  | [], g => by simp [packs]
  | x :: G, g => by
    rw [List.cons_append, packs, packs, packs_snoc (b + 1) G g, List.length_cons, List.cons_append]
    congr 4; omega
theorem packs_len (b : Nat) : ∀ G : List Seg, (packs b G).length = G.length
  | [] => rfl
  | x :: G => by rw [packs, List.length_cons, packs_len (b + 1) G, List.length_cons]
set_option maxHeartbeats 1000000 in
theorem packets_any (b t kn : Nat) (A : Option Addr) (n cap : Nat) (L : List SR) (B : Nat) (w : World) (h : Sl 3 segC w A n L) (hg : Sgs B w L) (hn : n ≤ 1000000) :
    Calls Try.prog 14 #[.agg #[.int .u64 b, .int .u64 t, .int .u64 kn, .slice A n cap]] w (StrsTo (packets ⟨b, t, kn, gs L⟩) w) := by
  have HS := Lib.hid h
  have HG := Lib.hid hg
  have HL : Is L.length n := ⟨h.1⟩
  have hn2 : (n : Int) ≤ 1000000 := by omega
  have HA := Lib.hid ((Held.refl w).alloc (.cells #[.int .u64 b, .int .u64 t, .int .u64 kn, .slice A n cap] 38))
  have H1 := Lib.hid (sending_any b t kn A n cap L B (w.alloc (.cells #[.int .u64 b, .int .u64 t, .int .u64 kn, .slice A n cap] 38)) (h.held HA.out) (hg.held HA.out) hn)
  have M0 := Lib.hid ((Mem.start w).alloc' (b := w.heap.size) rfl #[.int .u64 b, .int .u64 t, .int .u64 kn, .slice A n cap] 38)
  have HB : Is (packets ⟨b, t, kn, gs L⟩) (if sending ⟨b, t, kn, gs L⟩ = true then packs b (gs L) else []) := ⟨rfl⟩
  obtain ⟨r, hr⟩ : ∃ r, packets ⟨b, t, kn, gs L⟩ = r := ⟨_, rfl⟩
  obtain ⟨v, hv⟩ : ∃ v, sending ⟨b, t, kn, gs L⟩ = v := ⟨_, rfl⟩
  have HSB : Hid (v = true → b ≤ 4611686018427387904) := fun e => by
    have h := hv.trans e
    unfold sending at h
    simp only [Bool.and_eq_true, decide_eq_true_eq] at h
    exact h.1.1.2
  rw [hv] at H1 HB
  rw [hr] at HB ⊢
  clear hr hv h hg
  go_enter Try.func14, Try.ntmps14
  go_wp2_with fail
  refine H1.out.mono ?_
  rintro e w2 ⟨rfl, h2⟩
  have M2 := Lib.hid (M0.out.keep h2)
  clear h2 H1 M0
  obtain ⟨⟨c0, c1, c2, c3⟩, _, hl0⟩ := M2.out.box4 0 rfl
  cases v
  · have HB2 : Is r [] := ⟨HB.out⟩
    clear HB
    go_wp2
    go_ret
    exact ⟨none, 0, 0, rfl, by rw [HB2.out]; exact Own.nil w2, M2.out.held⟩
  have HB2 : Is r (packs b (gs L)) := ⟨HB.out⟩
  have hbb := HSB.out rfl
  clear HB
  go_wp2
  have M3 := Lib.hid (M2.out.nilRow (e := 9) (s := 1) (f := stC))
  go_loopw [3, 14] (fun v i wr => ∃ q : Nat, i = .int .i64 (q : Int) ∧ q ≤ n ∧ Mem w wr [.box w.heap.size #[.int .u64 b, .int .u64 t, .int .u64 kn, .slice A n cap] 38, .row 9 1 stC w.heap.size v (strs (packs b (gs (L.take q))))]) (fun _ i _ => n - (RowKit.intOf i).toNat)
  case atStart => exact ⟨0, rfl, Nat.zero_le _, M3.out⟩
  case round =>
    obtain ⟨q, rfl, hq, hM⟩ := hrel
    obtain ⟨A2, cap2, rfl, hcap2, _⟩ := (hM.row 1 rfl).shape
    have hlq : (strs (packs b (gs (L.take q)))).length = q := by unfold strs; rw [List.length_map, packs_len, gs_len, List.length_take, HL.out]; omega
    have HLQ : Is (strs (packs b (gs (L.take q)))).length q := ⟨hlq⟩
    have M := Lib.hid hM
    rw [hlq] at M hcap2 ⊢
    clear hM hlq M2 M3 c0 c1 c2 c3 hl0
    obtain ⟨⟨c0, c1, c2, c3⟩, _, hl0⟩ := M.out.box4 0 rfl
    by_cases hlt : q < n
    · obtain ⟨b1, off, f', kn', A', n', cap', es', rfl, hb1, hx, x0, x1, x2⟩ := segAt HS.out M.out.held (k := q) hlt
      have z2 : (q : Int) < n := by omega
      have z3 : (0 : Int) ≤ q := by omega
      have SG := Lib.hid (HG.out.at_ hx)
      have HX := Lib.hid hx
      have hz := M.out.held.le
      have hbw : b1 < wr.heap.size := by omega
      have hbn : ¬ b1 = wr.heap.size := by omega
      have hwn : ¬ w.heap.size = wr.heap.size := by omega
      have hnx : Hid (strs (packs b (gs (L.take (q + 1)))) = strs (packs b (gs (L.take q))) ++ [⟨(dataP (b + q) ⟨f', kn', es'⟩).toArray⟩]) := by
        obtain ⟨hql, hxe⟩ := List.getElem?_eq_some_iff.1 hx
        show _ = _
        rw [List.take_succ_eq_append_getElem hql, hxe]
        unfold gs
        rw [List.map_append, List.map_singleton, packs_snoc]
        unfold strs
        rw [List.map_append, List.map_singleton, List.length_map, List.length_take, Nat.min_eq_left (by omega)]; rfl
      have M2 := Lib.hid (M.out.alloc #[.int .u64 f', .int .u64 kn', .slice A' n' cap'] 32)
      have HE := Lib.hid (encodeS_any f' kn' A' n' cap' es' B (wr.alloc (.cells #[.int .u64 f', .int .u64 kn', .slice A' n' cap'] 32)) (SG.out.held M2.out.held))
      have hbl := body_len ⟨f', kn', es'⟩ ⟨SG.out.f, SG.out.kn, SG.out.ok⟩
      have HD : Is (dataP (b + q) ⟨f', kn', es'⟩) (packed (b + q) (68 :: (body ⟨f', kn', es'⟩).1)) := ⟨rfl⟩
      obtain ⟨bo, hbo⟩ : ∃ bo, body ⟨f', kn', es'⟩ = bo := ⟨_, rfl⟩
      rw [hbo] at HE hbl HD
      obtain ⟨bt, be⟩ := bo
      have P2 := fun w => pack_any (b + q) (⟨#[68]⟩ ++ ⟨bt.toArray⟩) (by omega) (by rw [mark_size]; simp only at hbl; omega) w
      rw [mark_list, ← HD.out] at P2
      simp only [Int.natCast_add] at P2
      have HP2 := Lib.hid P2
      obtain ⟨dp, hdp⟩ : ∃ dp, dataP (b + q) ⟨f', kn', es'⟩ = dp := ⟨_, rfl⟩
      rw [hdp] at HP2 hnx
      clear hx hb1 hz hbo HD P2 hdp
      simp only at hbl
      go_wp2_with fail
      refine HE.out.mono ?_
      rintro e w3 ⟨rfl, h3⟩
      have M3 := Lib.hid (M2.out.keep h3)
      clear h3 HE M2 M x0 x1 x2 c0 c1 c2 c3 hl0
      obtain ⟨⟨c0, c1, c2, c3⟩, _, hl0⟩ := M3.out.box4 0 rfl
      go_wp2_with fail
      refine (HP2.out _).mono ?_
      rintro e w4 ⟨rfl, h4⟩
      have M4 := Lib.hid ((M3.out.keep h4).skip (.cells #[.string ⟨dp.toArray⟩] 9))
      clear h4 HP2 M3 c0 c1 c2 c3 hl0
      go_wp2_with (at_builtin; refine Mem.wp_app M4.out 1 rfl rfl _ _ _ rfl _ 16 Try.underlying44 info_str rfl (by decide) stC_len stC_one ⟨dp.toArray⟩ ⟨w4.heap.size, 0, none⟩ 1 rfl rfl (cells_new _ rfl _ _) q HLQ.out (by omega) (by decide) ?_; intro g5 cp5 w5 M5'; have M5 := Lib.hid M5'; clear M5')
      go_roundw
      case rel =>
        refine ⟨q + 1, by go_num, by omega, ?_⟩
        rw [hnx.out]
        exact M5.out.take 2
      case measure => (simp [RowKit.intOf]) <;> omega
    · obtain rfl : q = n := by omega
      have z2 : ¬ (q : Int) < q := by omega
      have htk : L.take q = L := List.take_of_length_le (by rw [HL.out]; exact Nat.le_refl _)
      rw [htk] at M HLQ
      clear htk
      go_wp2
      go_ret
      refine ⟨A2, q, cap2, rfl, ?_, M.out.held⟩
      rw [HB2.out]
      exact M.out.row 1 rfl
end St
end Go.Proofs.Ythpjbffhdaaibaa

set_option linter.unusedVariables false
set_option linter.unusedSimpArgs false
set_option maxRecDepth 100000
namespace Go.Proofs.Ythpjbffhdaaibaa
open Go.RowKit Go.BigFrame Go.Sort Go.Lib
namespace Mem
/-- A whole struct is stored into a box. -/
theorem put4 {W w : World} {H : List Ck} (h : Mem W w H) (i : Nat) {b : Nat} {a0 a1 a2 a3 : Value} {t : TypeId} (hi : H[i]? = some (.box b #[a0, a1, a2, a3] t)) (x0 x1 x2 x3 : Value) :
    Mem W ((((w.setCell ⟨b, 0, none⟩ x0).setCell ⟨b, 1, none⟩ x1).setCell ⟨b, 2, none⟩ x2).setCell ⟨b, 3, none⟩ x3) (H.set i (.box b #[x0, x1, x2, x3] t)) := by
  have hl : i < H.length := (List.getElem?_eq_some_iff.1 hi).1
  have g : ∀ (c : Ck), (H.set i c)[i]? = some c := fun c => by rw [List.getElem?_set]; simp [hl]
  have h1 := h.put i hi 0 x0
  have h2 := h1.put i (g _) 1 x1
  rw [List.set_set] at h2
  have h3 := h2.put i (g _) 2 x2
  rw [List.set_set] at h3
  have h4 := h3.put i (g _) 3 x3
  rw [List.set_set] at h4
  exact h4
theorem put3 {W w : World} {H : List Ck} (h : Mem W w H) (i : Nat) {b : Nat} {a0 a1 a2 : Value} {t : TypeId} (hi : H[i]? = some (.box b #[a0, a1, a2] t)) (x0 x1 x2 : Value) :
    Mem W (((w.setCell ⟨b, 0, none⟩ x0).setCell ⟨b, 1, none⟩ x1).setCell ⟨b, 2, none⟩ x2) (H.set i (.box b #[x0, x1, x2] t)) := by
  have hl : i < H.length := (List.getElem?_eq_some_iff.1 hi).1
  have g : ∀ (c : Ck), (H.set i c)[i]? = some c := fun c => by rw [List.getElem?_set]; simp [hl]
  have h1 := h.put i hi 0 x0
  have h2 := h1.put i (g _) 1 x1
  rw [List.set_set] at h2
  have h3 := h2.put i (g _) 2 x2
  rw [List.set_set] at h3
  exact h3
end Mem
namespace St
open Enc Uv Lg Lgc Strs
/-- A store into a block that is no entry's. -/
structure Blk (B : Nat) (w : World) (b : Nat) : Prop where
  ge : B ≤ b
  at_ : ∃ cs T z, w.heap[b]? = some (.cells cs T z) ∧ T ≠ 106
theorem Blk.put {B b j : Nat} {w : World} {v : Value} (h : Blk B w b) : Blk B (w.setCell ⟨b, j, none⟩ v) b := by
  obtain ⟨cs, T, z, q, hT⟩ := h.at_
  refine ⟨h.ge, cs.setIfInBounds j v, T, z, ?_, hT⟩
  simp only [World.setCell]
  rw [Array.getElem?_modify, if_pos rfl, q]; rfl
theorem Blk.chg {B b : Nat} {w : World} (h : Blk B w b) (j : Nat) (v : Value) : Chg 106 B w (w.setCell ⟨b, j, none⟩ v) (some b) := by
  obtain ⟨cs, T, z, q, hT⟩ := h.at_
  exact Chg.put q hT h.ge j v
theorem Blk.of {B : Nat} {W w : World} {H : List Ck} (h : Mem W w H) (i : Nat) {b : Nat} {cs : Array Value} {t : TypeId} (hi : H[i]? = some (.box b cs t)) (hT : t ≠ 106) (hB : B ≤ W.heap.size) : Blk B w b :=
  ⟨Nat.le_trans hB (h.geb i hi), cs, t, _, h.blk i hi, hT⟩
theorem Sgs.put1 {B b : Nat} {w : World} {R : List SR} (h : Sgs B w R) (k : Blk B w b) (j : Nat) (v : Value) : Sgs B (w.setCell ⟨b, j, none⟩ v) R := h.chg (k.chg j v)
theorem Sgs.put4 {B b : Nat} {w : World} {R : List SR} (h : Sgs B w R) (k : Blk B w b) (x0 x1 x2 x3 : Value) : Sgs B ((((w.setCell ⟨b, 0, none⟩ x0).setCell ⟨b, 1, none⟩ x1).setCell ⟨b, 2, none⟩ x2).setCell ⟨b, 3, none⟩ x3) R :=
  (((h.put1 k 0 x0).put1 k.put 1 x1).put1 k.put.put 2 x2).put1 k.put.put.put 3 x3
theorem Ers.put1 {B b : Nat} {w : World} {R : List ErR} (h : Ers B w R) (k : Blk B w b) (j : Nat) (v : Value) : Ers B (w.setCell ⟨b, j, none⟩ v) R := h.chg (k.chg j v)
theorem Ers.put3 {B b : Nat} {w : World} {R : List ErR} (h : Ers B w R) (k : Blk B w b) (x0 x1 x2 : Value) : Ers B (((w.setCell ⟨b, 0, none⟩ x0).setCell ⟨b, 1, none⟩ x1).setCell ⟨b, 2, none⟩ x2) R :=
  ((h.put1 k 0 x0).put1 k.put 1 x1).put1 k.put.put 2 x2
/-- A call hands back a sender of its own and a word. -/
def SndX (B : Nat) (S : Snd) (x : Value) (w : World) (e : Ending) (w' : World) : Prop := ∃ A n cap, e = .returned (.tuple #[.agg #[.int .u64 S.b, .int .u64 S.t, .int .u64 S.kn, .slice A n cap], x]) ∧ OwnQ B w w' (.slice A n cap) S.q ∧ Held w w'
theorem SndX.mk {B b t kn : Nat} {S : Snd} {x x' : Value} {w w' : World} {A : Option Addr} {n cap : Nat} {R : List SR} (hS : S = ⟨b, t, kn, gs R⟩) (hx : x' = x) (ho : Own 32 3 segC w.heap.size w' (.slice A n cap) R) (hs : Sgs B w' R) (k : Held w w') :
    SndX B S x w (.returned (.tuple #[.agg #[.int .u64 b, .int .u64 t, .int .u64 kn, .slice A n cap], x'])) w' := by
  subst hS hx; exact ⟨A, n, cap, rfl, ⟨R, rfl, ho, hs⟩, k⟩
set_option maxHeartbeats 2000000 in
theorem push_any (b t kn : Nat) (A : Option Addr) (n cap : Nat) (L : List SR) (f gk : Nat) (GA : Option Addr) (gn gc : Nat) (es : List Ent) (B : Nat) (w : World) (hB : B ≤ w.heap.size) (h : Sl 3 segC w A n L) (hg : Sgs B w L) (hn : n ≤ 1000000) (hs : Sg B w ⟨f, gk, GA, gn, gc, es⟩) :
    Calls Try.prog 19 #[.agg #[.int .u64 b, .int .u64 t, .int .u64 kn, .slice A n cap], .agg #[.int .u64 f, .int .u64 gk, .slice GA gn gc]] w (SndX B (push ⟨b, t, kn, gs L⟩ ⟨f, gk, es⟩).1 (.int .i64 (push ⟨b, t, kn, gs L⟩ ⟨f, gk, es⟩).2) w) := by
  have HS := Lib.hid h
  have HG := Lib.hid hg
  have HSG := Lib.hid hs
  have HL : Is L.length n := ⟨h.1⟩
  have HBB := Lib.hid hB
  have hn2 : (n : Int) ≤ 1000000 := by omega
  have hql : (gs L).length = n := by rw [gs_len]; exact h.1
  have HP : Is (push ⟨b, t, kn, gs L⟩ ⟨f, gk, es⟩) (if (decide (f ≠ t) || !sending ⟨b, t, kn, gs L⟩) = true then (⟨b, t, kn, gs L⟩, 2400) else if (logOf ⟨f, gk, es⟩).2 ≠ 0 then (⟨b, t, kn, gs L⟩, (logOf ⟨f, gk, es⟩).2) else if 8 ≤ n then (⟨b, t, kn, gs L⟩, 2401) else (⟨b, gk, kn, gs L ++ [⟨f, gk, es⟩]⟩, 0)) := ⟨by rw [← hql]; rfl⟩
  obtain ⟨p, hp⟩ : ∃ p, push ⟨b, t, kn, gs L⟩ ⟨f, gk, es⟩ = p := ⟨_, rfl⟩
  obtain ⟨sv, hsv⟩ : ∃ sv, sending ⟨b, t, kn, gs L⟩ = sv := ⟨_, rfl⟩
  obtain ⟨lo, hlo⟩ : ∃ lo, logOf ⟨f, gk, es⟩ = lo := ⟨_, rfl⟩
  have M0 : Hid (Mem w (((w.alloc (.cells #[.int .u64 b, .int .u64 t, .int .u64 kn, .slice A n cap] 38)).alloc (.cells #[.int .u64 f, .int .u64 gk, .slice GA gn gc] 32)).alloc (.cells #[.int .u64 0, .int .u64 0, .int .u64 0, .slice none 0 0] 38)) [.box w.heap.size #[.int .u64 b, .int .u64 t, .int .u64 kn, .slice A n cap] 38, .box (w.heap.size + 1) #[.int .u64 f, .int .u64 gk, .slice GA gn gc] 32, .box (w.heap.size + 1 + 1) #[.int .u64 0, .int .u64 0, .int .u64 0, .slice none 0 0] 38]) :=
    (((Mem.start w).alloc' (b := w.heap.size) rfl _ _).alloc' (b := w.heap.size + 1) (by simp) _ _).alloc' (b := w.heap.size + 1 + 1) (by simp) _ _
  obtain ⟨w1, hw1⟩ : ∃ w1, (((w.alloc (.cells #[.int .u64 b, .int .u64 t, .int .u64 kn, .slice A n cap] 38)).alloc (.cells #[.int .u64 f, .int .u64 gk, .slice GA gn gc] 32)).alloc (.cells #[.int .u64 0, .int .u64 0, .int .u64 0, .slice none 0 0] 38)) = w1 := ⟨_, rfl⟩
  have HW1 := Lib.hid hw1
  rw [hw1] at M0
  rw [hp, hsv, hlo] at HP
  rw [hp]
  have HCP := Lib.hid (copySender_any b t kn A n cap L B w1 (Nat.le_trans hB M0.out.held.le) (h.held M0.out.held) (hg.held M0.out.held) hn)
  have HSN := Lib.hid fun (w' : World) (k : Held w w') => sending_any b t kn A n cap L B w' (h.held k) (hg.held k) hn
  have HLO := Lib.hid fun (w' : World) (k : Held w w') => log_any f gk GA gn gc es B w' (hs.held k)
  have HCS := Lib.hid fun (w' : World) (k : Held w w') => copy_any f gk GA gn gc es B w' (hs.held k)
  rw [hsv] at HSN
  rw [hlo] at HLO
  clear hp hsv hlo hw1 h hg hs hB hql
  obtain ⟨⟨c0, c1, c2, c3⟩, _, hl0⟩ := M0.out.box4 0 rfl
  go_enter Try.func19, Try.ntmps19
  go_wp2_with fail
  rw [HW1.out]
  refine HCP.out.mono ?_
  rintro e w2 ⟨A2, n2, cap2, rfl, ⟨R, hR, oR, sR⟩, h2⟩
  dsimp only at hR ⊢
  have hRl : R.length = n := by have := congrArg List.length hR; rw [gs_len, gs_len, HL.out] at this; exact this
  obtain rfl : n2 = n := by rw [← hRl]; exact (Own.reads segC_len oR).2.1
  have HRL : Is R.length n2 := ⟨hRl⟩
  have HR := Lib.hid hR
  have M2 := Lib.hid ((M0.out.own h2 oR).alloc #[.int .u64 b, .int .u64 t, .int .u64 kn, .slice A2 n2 cap2] 38)
  have S2 := Lib.hid (sR.held ((Held.refl w2).alloc (.cells #[.int .u64 b, .int .u64 t, .int .u64 kn, .slice A2 n2 cap2] 38)))
  clear hR oR sR h2 HCP HW1 M0 c0 c1 c2 c3 hl0 hRl
  obtain ⟨⟨a0, a1, a2, a3⟩, _, hla⟩ := M2.out.box4 0 rfl
  obtain ⟨⟨b0, b1, b2⟩, _, hlb⟩ := M2.out.box3 1 rfl
  by_cases t1 : ¬ f = t
  · have t1b : ((f : Int) == t) = false := by rw [beq_eq_false_iff_ne]; omega
    have t1c : (f == t) = false := by rw [beq_eq_false_iff_ne]; exact t1
    have HP2 : Is p (⟨b, t, kn, gs L⟩, 2400) := ⟨by rw [HP.out, if_pos (by simp [t1])]⟩
    clear HP
    obtain ⟨⟨c0, c1, c2, c3⟩, ⟨f0, f1, f2, f3⟩, hl0⟩ := M2.out.box4 2 rfl
    obtain ⟨⟨d0, d1, d2, d3⟩, _, hl1⟩ := M2.out.box4 4 rfl
    have hn02 : ¬ w.heap.size + 1 + 1 = w2.heap.size := M2.out.ne 2 4 rfl rfl (by decide)
    have hn20 : ¬ w2.heap.size = w.heap.size + 1 + 1 := fun e => hn02 e.symm
    go_wp2
    have MF := M2.out.put4 2 rfl (.int .u64 b) (.int .u64 t) (.int .u64 kn) (.slice A2 n2 cap2)
    refine bodyPost_ret (Bx.res_ct Try.results19 rfl (snd_load (MF.blk 2 rfl))) rfl ?_
    exact SndX.mk (by rw [HP2.out, HR.out]) (by rw [HP2.out]; rfl) (MF.row 3 rfl) (S2.out.put4 (Blk.of M2.out 2 rfl (by decide) HBB.out) _ _ _ _) MF.held
  have t1 := Decidable.not_not.1 t1
  subst t1
  have HP1 : Is p (if sv = false then (⟨b, f, kn, gs L⟩, 2400) else if lo.2 ≠ 0 then (⟨b, f, kn, gs L⟩, lo.2) else if 8 ≤ n2 then (⟨b, f, kn, gs L⟩, 2401) else (⟨b, gk, kn, gs L ++ [⟨f, gk, es⟩]⟩, 0)) := ⟨by rw [HP.out]; cases sv <;> simp⟩
  clear HP
  go_wp2_with fail
  refine (HSN.out _ M2.out.held).mono ?_
  rintro e w3 ⟨rfl, h3⟩
  have M3 := Lib.hid (M2.out.keep h3)
  have S3 := Lib.hid (S2.out.held h3)
  clear h3 HSN M2 S2 a0 a1 a2 a3 hla b0 b1 b2 hlb
  obtain ⟨⟨a0, a1, a2, a3⟩, _, hla⟩ := M3.out.box4 0 rfl
  obtain ⟨⟨b0, b1, b2⟩, _, hlb⟩ := M3.out.box3 1 rfl
  cases sv
  · have HP2 : Is p (⟨b, f, kn, gs L⟩, 2400) := ⟨HP1.out⟩
    clear HP1
    obtain ⟨⟨c0, c1, c2, c3⟩, ⟨f0, f1, f2, f3⟩, hl0⟩ := M3.out.box4 2 rfl
    obtain ⟨⟨d0, d1, d2, d3⟩, _, hl1⟩ := M3.out.box4 4 rfl
    have hn02 : ¬ w.heap.size + 1 + 1 = w2.heap.size := M3.out.ne 2 4 rfl rfl (by decide)
    have hn20 : ¬ w2.heap.size = w.heap.size + 1 + 1 := fun e => hn02 e.symm
    go_wp2
    have MF := M3.out.put4 2 rfl (.int .u64 b) (.int .u64 f) (.int .u64 kn) (.slice A2 n2 cap2)
    refine bodyPost_ret (Bx.res_ct Try.results19 rfl (snd_load (MF.blk 2 rfl))) rfl ?_
    exact SndX.mk (by rw [HP2.out, HR.out]) (by rw [HP2.out]; rfl) (MF.row 3 rfl) (S3.out.put4 (Blk.of M3.out 2 rfl (by decide) HBB.out) _ _ _ _) MF.held
  have HP3 : Is p (if lo.2 ≠ 0 then (⟨b, f, kn, gs L⟩, lo.2) else if 8 ≤ n2 then (⟨b, f, kn, gs L⟩, 2401) else (⟨b, gk, kn, gs L ++ [⟨f, gk, es⟩]⟩, 0)) := ⟨HP1.out⟩
  clear HP1
  go_wp2_with fail
  refine (HLO.out _ M3.out.held).mono ?_
  rintro e w4 ⟨rfl, h4⟩
  have M4 := Lib.hid (M3.out.keep h4)
  have S4 := Lib.hid (S3.out.held h4)
  clear h4 HLO M3 S3 a0 a1 a2 a3 hla b0 b1 b2 hlb
  obtain ⟨⟨a0, a1, a2, a3⟩, _, hla⟩ := M4.out.box4 0 rfl
  obtain ⟨⟨b0, b1, b2⟩, _, hlb⟩ := M4.out.box3 1 rfl
  obtain ⟨ls, lc⟩ := lo
  dsimp only at HP3 ⊢
  by_cases hc : ¬ lc = 0
  · have hcb : (lc == 0) = false := by rw [beq_eq_false_iff_ne]; exact hc
    have HP2 : Is p (⟨b, f, kn, gs L⟩, lc) := ⟨by rw [HP3.out, if_pos hc]⟩
    clear HP3
    obtain ⟨⟨c0, c1, c2, c3⟩, ⟨f0, f1, f2, f3⟩, hl0⟩ := M4.out.box4 2 rfl
    obtain ⟨⟨d0, d1, d2, d3⟩, _, hl1⟩ := M4.out.box4 4 rfl
    have hn02 : ¬ w.heap.size + 1 + 1 = w2.heap.size := M4.out.ne 2 4 rfl rfl (by decide)
    have hn20 : ¬ w2.heap.size = w.heap.size + 1 + 1 := fun e => hn02 e.symm
    go_wp2
    have MF := M4.out.put4 2 rfl (.int .u64 b) (.int .u64 f) (.int .u64 kn) (.slice A2 n2 cap2)
    refine bodyPost_ret (Bx.res_ct Try.results19 rfl (snd_load (MF.blk 2 rfl))) rfl ?_
    exact SndX.mk (by rw [HP2.out, HR.out]) (by rw [HP2.out]; rfl) (MF.row 3 rfl) (S4.out.put4 (Blk.of M4.out 2 rfl (by decide) HBB.out) _ _ _ _) MF.held
  have hc := Decidable.not_not.1 hc
  subst hc
  have HP4 : Is p (if 8 ≤ n2 then (⟨b, f, kn, gs L⟩, 2401) else (⟨b, gk, kn, gs L ++ [⟨f, gk, es⟩]⟩, 0)) := ⟨by rw [HP3.out, if_neg (by simp)]⟩
  clear HP3
  by_cases h8 : (8 : Int) ≤ n2
  · have HP2 : Is p (⟨b, f, kn, gs L⟩, 2401) := ⟨by rw [HP4.out, if_pos (by omega)]⟩
    clear HP4
    obtain ⟨⟨c0, c1, c2, c3⟩, ⟨f0, f1, f2, f3⟩, hl0⟩ := M4.out.box4 2 rfl
    obtain ⟨⟨d0, d1, d2, d3⟩, _, hl1⟩ := M4.out.box4 4 rfl
    have hn02 : ¬ w.heap.size + 1 + 1 = w2.heap.size := M4.out.ne 2 4 rfl rfl (by decide)
    have hn20 : ¬ w2.heap.size = w.heap.size + 1 + 1 := fun e => hn02 e.symm
    go_wp2
    have MF := M4.out.put4 2 rfl (.int .u64 b) (.int .u64 f) (.int .u64 kn) (.slice A2 n2 cap2)
    refine bodyPost_ret (Bx.res_ct Try.results19 rfl (snd_load (MF.blk 2 rfl))) rfl ?_
    exact SndX.mk (by rw [HP2.out, HR.out]) (by rw [HP2.out]; rfl) (MF.row 3 rfl) (S4.out.put4 (Blk.of M4.out 2 rfl (by decide) HBB.out) _ _ _ _) MF.held
  have HP2 : Is p (⟨b, gk, kn, gs L ++ [⟨f, gk, es⟩]⟩, 0) := ⟨by rw [HP4.out, if_neg (by omega)]⟩
  clear HP4
  obtain ⟨⟨d0, d1, d2, d3⟩, _, hl1⟩ := M4.out.box4 4 rfl
  go_wp2
  go_region_law (first
    | (refine Mem.step_appC M5b.out 3 rfl (by rfl) _ _ _ (by rfl) _ 40 Try.underlying25 info_seg (by rfl) (by decide) segC_len segC_one ⟨f, gk, A3, n3, cap3, es⟩ ⟨w5.heap.size, 0, none⟩ 1 (by rfl) (by rfl) (cells_new _ rfl _ _) n2 HRL.out (by omega) (by decide) ?_; intro g4 cp4 w6 M6' k6; have M6 := Lib.hid M6'; have K6 := Lib.hid k6; obtain ⟨⟨r0, r1, r2, r3⟩, ⟨rf0, rf1, rf2, rf3⟩, rl⟩ := M6'.box4 4 rfl; clear M6' k6)
    | (go_simp; go_at_call 49; refine (HCS.out _ M4.out.held.drew).mono ?_; rintro e w5 ⟨A3, n3, cap3, rfl, hs3, h3⟩; dsimp only at hs3 ⊢; have M5 := Lib.hid ((M4.out.drew.keep h3)); have M5b := Lib.hid (M5.out.skip (.cells #[.int .u64 f, .int .u64 gk, .slice A3 n3 cap3] 32)); have S5 := Lib.hid ((hs3 B).held ((Held.refl w5).alloc (.cells #[.int .u64 f, .int .u64 gk, .slice A3 n3 cap3] 32))); have R5 := Lib.hid (S4.out.held (((Held.refl w4).drew.step h3).alloc (.cells #[.int .u64 f, .int .u64 gk, .slice A3 n3 cap3] 32))); obtain ⟨⟨p0, p1, p2, p3⟩, ⟨pf0, pf1, pf2, pf3⟩, pl⟩ := M5.out.box4 4 rfl; obtain ⟨⟨q0, q1, q2, q3⟩, ⟨qf0, qf1, qf2, qf3⟩, ql⟩ := M5b.out.box4 4 rfl; clear hs3 h3))
  all_goals
    have kk := K6.out 106 B (by decide) HBB.out
    have S6 := Lib.hid ((R5.out.chg kk).snoc (S5.out.chg kk))
    have MA := Lib.hid (M6.out.put 4 rfl 3 (.slice (some ⟨g4, 0, none⟩) (n2 + 1) cp4))
    have MB := Lib.hid (MA.out.put 4 rfl 1 (.int .u64 gk))
    have SA := Lib.hid (S6.out.put1 (Blk.of M6.out 4 rfl (by decide) HBB.out) 3 (.slice (some ⟨g4, 0, none⟩) (n2 + 1) cp4))
    have SB := Lib.hid (SA.out.put1 (Blk.of MA.out 4 rfl (by decide) HBB.out) 1 (.int .u64 gk))
    clear p0 p1 p2 p3 pf0 pf1 pf2 pf3 pl q0 q1 q2 q3 qf0 qf1 qf2 qf3 ql r0 r1 r2 r3 rf0 rf1 rf2 rf3 rl a0 a1 a2 a3 hla b0 b1 b2 hlb d0 d1 d2 d3 hl1 kk K6 S5 R5 M5 M5b S6
    obtain ⟨⟨b0, b1, b2⟩, _, hlb⟩ := MA.out.box3 1 rfl
    obtain ⟨⟨c0, c1, c2, c3⟩, ⟨f0, f1, f2, f3⟩, hl0⟩ := MA.out.box4 2 rfl
    obtain ⟨⟨d0, d1, d2, d3⟩, ⟨g0, g1, g2, g3⟩, hl1⟩ := MA.out.box4 4 rfl
    have hn02 : ¬ w.heap.size + 1 + 1 = w2.heap.size := MA.out.ne 2 4 rfl rfl (by decide)
    have hn20 : ¬ w2.heap.size = w.heap.size + 1 + 1 := fun e => hn02 e.symm
    have hn12 : ¬ w.heap.size + 1 = w2.heap.size := MA.out.ne 1 4 rfl rfl (by decide)
    have hn21 : ¬ w2.heap.size = w.heap.size + 1 := fun e => hn12 e.symm
    go_wp2
    have MF := MB.out.put4 2 rfl (.int .u64 b) (.int .u64 gk) (.int .u64 kn) (.slice (some ⟨g4, 0, none⟩) (n2 + 1) cp4)
    refine bodyPost_ret (Bx.res_ct Try.results19 rfl (snd_load (MF.blk 2 rfl))) rfl ?_
    exact SndX.mk (by rw [HP2.out]; unfold gs at HR ⊢; rw [List.map_append, HR.out]; rfl) (by rw [HP2.out]; rfl) (MF.row 3 rfl) (SB.out.put4 (Blk.of MB.out 2 rfl (by decide) HBB.out) _ _ _ _) MF.held
end St
end Go.Proofs.Ythpjbffhdaaibaa
