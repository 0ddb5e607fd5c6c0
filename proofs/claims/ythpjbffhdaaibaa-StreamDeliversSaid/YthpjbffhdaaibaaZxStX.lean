/-
  Contracts: link: clone, has (chapters 23, 24).
-/
import Derived.Test.YthpjbffhdaaibaaZ13
import Derived.Test.YthpjbffhdaaibaaZxSlcLs
set_option linter.unusedVariables false
set_option linter.unusedSimpArgs false
set_option maxRecDepth 100000
namespace Go.Proofs.Ythpjbffhdaaibaa
open Go.RowKit Go.BigFrame Go.Sort Go.Lib
namespace St
open Enc Uv Lg Lgc Strs
theorem link_load {w : World} {b : Nat} {v1 v2 : Value} (h : w.heap[b]? = some (.cells #[v1, v2] 59 (0, 0))) : (loadVar 59 ⟨b, 0, none⟩).run Try.prog w = .ok (.agg #[v1, v2]) w := by
  have c0 := Bx.cell h 0 rfl
  have c1 := Bx.cell h 1 rfl
  simp [go_sem, c0, c1]
theorem lhas_any (A : Option Addr) (n cap : Nat) (cut : Bool) (i : Int) (hi : -9223372036854775808 ≤ i) (hi' : i ≤ 9223372036854775807) (hn : n ≤ 1000) (w : World) :
    Calls Try.prog 52 #[.agg #[.slice A n cap, .bool cut], .int .i64 i] w (BoolTo (decide (0 ≤ i) && decide (i < n)) w) := by
  by_cases h0 : 0 ≤ i
  · have hd : decide (0 ≤ i) = true := decide_eq_true h0
    go_enter Try.func52, Try.ntmps52
    go_wp2
    go_ret
    exact BoolTo.mk (by rw [hd]; rfl) ((Held.refl w).alloc _)
  · have hd : decide (0 ≤ i) = false := decide_eq_false h0
    go_enter Try.func52, Try.ntmps52
    go_wp2
    go_ret
    exact BoolTo.mk (by first | rfl | (rw [hd]; rfl)) ((Held.refl w).alloc _)
/-- A call hands back a link of its own, not cut. -/
def LinkTo (P : List ByteArray) (w : World) (e : Ending) (w' : World) : Prop := ∃ A n cap, e = .returned (.agg #[.slice A n cap, .bool false]) ∧ Own 9 1 stC w.heap.size w' (.slice A n cap) P ∧ Held w w'
set_option maxHeartbeats 1000000 in
theorem lclone_any (A : Option Addr) (n cap : Nat) (P : List ByteArray) (w : World) (h : Sl 1 stC w A n P) (hA : A = none → n = 0) (hn : n ≤ 1000) :
    Calls Try.prog 50 #[.agg #[.slice A n cap, .bool false]] w (LinkTo P w) := by
  have M0 := Lib.hid (((Mem.start w).alloc' (b := w.heap.size) rfl #[.slice A n cap, .bool false] 59).alloc' (b := w.heap.size + 1) (by simp) #[.slice none 0 0, .bool false] 59)
  obtain ⟨w1, hw1⟩ : ∃ w1, (w.alloc (.cells #[.slice A n cap, .bool false] 59)).alloc (.cells #[.slice none 0 0, .bool false] 59) = w1 := ⟨_, rfl⟩
  have HW1 := Lib.hid hw1
  rw [hw1] at M0
  have HC := Lib.hid fun (w' : World) (k : Held w1 w') => SlcLs.clone_any stC_len stC_one A n cap P w' (h.held (M0.out.held.step k)) hA (by omega)
  have HL : Is P.length n := ⟨h.1⟩
  obtain ⟨⟨c0, c1⟩, _, l0⟩ := M0.out.box2 0 rfl
  obtain ⟨⟨d0, d1⟩, ⟨f0, f1⟩, l1⟩ := M0.out.box2 1 rfl
  clear hw1 h
  go_enter Try.func50, Try.ntmps50
  go_wp2
  rw [HW1.out]
  go_region_law (first
    | (go_simp; go_at_call 53; refine (HC.out _ (Held.refl w1).drew).mono ?_; rintro e w3 ⟨v, rfl, o3, h3⟩; obtain ⟨A3, cp3, rfl, _, _⟩ := o3.shape; have M3 := Lib.hid (M0.out.drew.own h3 o3); obtain ⟨⟨p0, p1⟩, _, pl⟩ := M3.out.box2 0 rfl; obtain ⟨⟨q0, q1⟩, ⟨qf0, qf1⟩, ql⟩ := M3.out.box2 1 rfl))
  all_goals
    go_wp2
    have MF := (M3.out.put 1 rfl 0 (.slice A3 P.length cp3)).put 1 rfl 1 (.bool false)
    refine bodyPost_ret (Bx.res_c Try.results50 rfl (link_load (MF.blk 1 rfl))) rfl ?_
    exact ⟨A3, P.length, cp3, rfl, MF.row 2 rfl, MF.held⟩
theorem added_any (A : Option Addr) (n cap : Nat) (P : List ByteArray) (s : ByteArray) (w : World) (h : Sl 1 stC w A n P) (hA : A = none → n = 0) (hn : n ≤ 1000) (hcap : n ≤ cap) (hcm : cap ≤ maxLen) :
    Calls Try.prog 51 #[.slice A n cap, .string s] w (Sg.New 9 1 stC (P ++ [s]) w) := by
  have hcm' : (cap : Int) ≤ 9223372036854775807 := by unfold maxLen at hcm; omega
  clear hcm
  obtain ⟨w1, hw1⟩ : ∃ w1, w.alloc (.cells #[.string s] 9) = w1 := ⟨_, rfl⟩
  have h1 : Held w w1 := by rw [← hw1]; exact (Held.refl w).alloc _
  have hb1 : w1.heap[w.heap.size]? = some (.cells #[.string s] 9 (0, 0)) := by rw [← hw1]; exact heap_alloc_new w _
  obtain ⟨cp, w2, hr, ho, hh⟩ := SlcLs.grow_new stC_len stC_one A n P [s] w1 (h.held h1) hA ⟨w.heap.size, 0, none⟩ 1 1 rfl (by decide) (by intro j u hu; match j with | 0 => (rw [← (Option.some.inj hu)]; exact Bx.cell hb1 0 rfl) | j + 1 => simp [stC] at hu) (by omega)
  have hfin : Hid (Sg.New 9 1 stC (P ++ [s]) w (.returned (.slice (some ⟨w1.heap.size, 0, none⟩) (n + 1) cp)) w2) := Sg.New.mk (ho.mono h1.le) (h1.step hh)
  clear h ho hh hb1 h1
  obtain ⟨g, hg⟩ : ∃ g, w1.heap.size = g := ⟨_, rfl⟩
  rw [hg] at hr hfin
  clear hg
  subst hw1
  cases A with
  | none =>
    have h0 := hA rfl
    subst h0
    clear hA
    go_enter Try.func51, Try.ntmps51
    go_wp2_with (refine Sg.list_append rfl _ _ _ _ 44 rfl rfl rfl rfl hr ?_)
    go_ret
    exact hfin.out
  | some a =>
    clear hA
    go_enter Try.func51, Try.ntmps51
    go_wp2_with (refine Sg.list_append rfl _ _ _ _ 44 rfl rfl rfl rfl hr ?_)
    go_ret
    exact hfin.out
def lsend (P : List ByteArray) (s : ByteArray) : List ByteArray × Bool := if 24 ≤ P.length then (P, false) else (P ++ [s], true)
/-- A call hands back a link of its own, not cut, and a word. -/
def LinkOk (P : List ByteArray × Bool) (w : World) (e : Ending) (w' : World) : Prop := ∃ A n cap, e = .returned (.tuple #[.agg #[.slice A n cap, .bool false], .bool P.2]) ∧ Own 9 1 stC w.heap.size w' (.slice A n cap) P.1 ∧ Held w w'
set_option maxHeartbeats 1000000 in
theorem lsend_any (A : Option Addr) (n cap : Nat) (P : List ByteArray) (s : ByteArray) (w : World) (h : Sl 1 stC w A n P) (hA : A = none → n = 0) (hn : n ≤ 24) (hcap : n ≤ cap) (hcm : cap ≤ maxLen) :
    Calls Try.prog 22 #[.agg #[.slice A n cap, .bool false], .string s] w (LinkOk (lsend P s) w) := by
  have hP := h.1
  have M0 := Lib.hid (((Mem.start w).alloc' (b := w.heap.size) rfl #[.slice A n cap, .bool false] 59).alloc' (b := w.heap.size + 1) (by simp) #[.slice none 0 0, .bool false] 59)
  have HC := Lib.hid fun (w' : World) (k : Held w w') => lclone_any A n cap P w' (h.held k) hA (by omega)
  have HD := Lib.hid fun (w' : World) (k : Held w w') => added_any A n cap P s w' (h.held k) hA (by omega) hcap hcm
  have HK := Lib.hid M0.out.held
  by_cases h24 : 24 ≤ n
  · have hl : lsend P s = (P, false) := if_pos (by omega)
    rw [hl]
    have HP := Lib.hid hP
    clear h hl hP hA hcm
    go_enter Try.func22, Try.ntmps22
    go_wp2_with (go_at_call 50; refine (HC.out _ HK.out).mono ?_; rintro e w3 ⟨A3, n3, cp3, rfl, o3, h3⟩; have M3 := Lib.hid (M0.out.own h3 o3); obtain ⟨⟨p0, p1⟩, _, pl⟩ := M3.out.box2 0 rfl; obtain ⟨⟨q0, q1⟩, ⟨qf0, qf1⟩, ql⟩ := M3.out.box2 1 rfl)
    have MF := (M3.out.put 1 rfl 0 (.slice A3 n3 cp3)).put 1 rfl 1 (.bool false)
    refine bodyPost_ret (Bx.res_ct Try.results22 rfl (link_load (MF.blk 1 rfl))) rfl ?_
    exact ⟨A3, n3, cp3, rfl, MF.row 2 rfl, MF.held⟩
  · have hl : lsend P s = (P ++ [s], true) := if_neg (by omega)
    rw [hl]
    have HP := Lib.hid hP
    clear h hl hP hA hcm
    go_enter Try.func22, Try.ntmps22
    go_wp2_with (go_at_call 51; refine (HD.out _ HK.out).mono ?_; rintro e w3 ⟨v3, rfl, o3, h3⟩; obtain ⟨A3, cp3, rfl, _, _⟩ := o3.shape; obtain ⟨n3, hn3⟩ : ∃ n3, (P ++ [s]).length = n3 := ⟨_, rfl⟩; rw [hn3] at o3 ⊢; clear hn3; have M3 := Lib.hid (M0.out.own h3 o3); obtain ⟨⟨p0, p1⟩, _, pl⟩ := M3.out.box2 0 rfl; obtain ⟨⟨q0, q1⟩, ⟨qf0, qf1⟩, ql⟩ := M3.out.box2 1 rfl)
    have MF := (M3.out.put 1 rfl 0 (.slice A3 n3 cp3)).put 1 rfl 1 (.bool false)
    refine bodyPost_ret (Bx.res_ct Try.results22 rfl (link_load (MF.blk 1 rfl))) rfl ?_
    exact ⟨A3, n3, cp3, rfl, MF.row 2 rfl, MF.held⟩
end St
end Go.Proofs.Ythpjbffhdaaibaa
