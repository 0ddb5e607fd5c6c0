/-
  Contracts of the reference's machine: the processor's registers.
  Contracts of the reference's machine: the processor's registers, second part.
  Contracts of the reference's machine: the memory (256 words).
  Bytes of the call's own: append of bytes and of strings, the way to a string and back.
  Contracts of the reference's machine: the memory (256 words), writing.
-/
import Derived.Test.YtdacgdokbfcgdaaGreatW1
import Derived.BigQuiet
import Derived.Lib.QuietBelow
import Derived.Deep.RegionHeld3
import Derived.Deep.RegionLaw
import Derived.IntWalk
import Derived.Laws.BitsAllLaws
import Derived.Test.YtdacgdokbfcgdaaGreatProg
import Derived.WalkKit
import Derived.Lib.Hide
import Derived.Lib.AppendStr
import Derived.Maps.AppendAt
import Derived.WalkSpells
import Derived.WalkLawsBesides
set_option linter.unusedVariables false
set_option linter.unusedSimpArgs false
set_option maxRecDepth 100000
namespace Go.Proofs.YtdacgdokbfcgdaaGreat
open Go.RowKit Go.BigFrame Go.Sort Go.Lib
namespace Ma
/-- An equation in a box. -/
structure Is {α : Type} (a b : α) : Prop where
  out : a = b
/-- A word. -/
def Wd (z : Int) : Prop := 0 ≤ z ∧ z ≤ 4294967295
/-- Words as cells. -/
def wA (L : List Int) : Array Value := (L.map fun (n : Int) => Value.int .u32 n).toArray
structure CpuOK (L : List Int) : Prop where
  len : L.length = 25
  bd : ∀ n ∈ L, Wd n
theorem wA_size (L : List Int) : (wA L).size = L.length := by simp [wA]
theorem wA_at {L : List Int} {j : Nat} (h : j < L.length) : (wA L)[j]? = some (.int .u32 (L.getD j 0)) := by simp [wA, h]
theorem wA_set (L : List Int) (j : Nat) (v : Int) : (wA L).setIfInBounds j (.int .u32 v) = wA (L.set j v) := by
  apply Array.ext'
  simp [wA, List.map_set]
theorem wA_one (L : List Int) : ∀ v ∈ (wA L).toList, v.oneCell' = true := by
  intro v hv
  simp only [wA, List.mem_map] at hv
  obtain ⟨n, _, rfl⟩ := hv
  rfl
theorem CpuOK.set {L : List Int} (h : CpuOK L) {j : Nat} {v : Int} (hv : Wd v) : CpuOK (L.set j v) :=
  ⟨by rw [List.length_set]; exact h.len, fun n hn => by
    rcases List.mem_or_eq_of_mem_set hn with hn | rfl
    · exact h.bd n hn
    · exact hv⟩
theorem CpuOK.at_ {L : List Int} (h : CpuOK L) (j : Nat) : Wd (L.getD j 0) := by
  by_cases hj : j < L.length
  · have e : L.getD j 0 = L[j] := by simp [hj]
    rw [e]; exact h.bd _ (List.getElem_mem _)
  · have e : L.getD j 0 = 0 := by simp [hj]
    rw [e]; exact ⟨by decide, by decide⟩
theorem bits_wd (op : BinOp) (a b : Int) : Wd (bits op .u32 a b) := by
  unfold bits
  rw [IntKind.wrap_u32']
  constructor <;> omega
theorem mod_wd (a : Int) : Wd (a % 4294967296) := ⟨by omega, by omega⟩
theorem uCpu : ∃ fs, Tryz.prog.underlying 44 = some (.struct fs) := ⟨_, Tryz.underlying44⟩
theorem sCpu : (Tryz.prog.info? 44).map (·.size) = some 25 := by kernel_rfl
/-- The whole box by value. -/
theorem load_w {w : World} {b : Nat} {cs : Array Value} {t : TypeId} (hL : cs.size = 25) (h : w.heap[b]? = some (.cells cs t (0, 0))) : (loadVar 44 ⟨b, 0, none⟩).run Tryz.prog w = .ok (.agg cs) w := by
  obtain ⟨fs, hu⟩ := uCpu
  have := Big.run_load (P := Tryz.prog) w b 0 25 t 44 cs (0, 0) _ h hu rfl sCpu (by rw [hL]; decide) cs.toList (by rw [List.drop_zero, List.take_of_length_le (by rw [Array.length_toList, hL]; decide)])
  simpa using this
abbrev z25 : Array Value := #[.int .u32 0, .int .u32 0, .int .u32 0, .int .u32 0, .int .u32 0, .int .u32 0, .int .u32 0, .int .u32 0, .int .u32 0, .int .u32 0, .int .u32 0, .int .u32 0, .int .u32 0, .int .u32 0, .int .u32 0, .int .u32 0, .int .u32 0, .int .u32 0, .int .u32 0, .int .u32 0, .int .u32 0, .int .u32 0, .int .u32 0, .int .u32 0, .int .u32 0]
def CpuTo (L : List Int) (w : World) (e : Ending) (w' : World) : Prop := e = .returned (.agg (wA L)) ∧ Held w w'
def setR (L : List Int) (r : Nat) (v : Int) : List Int := if 0 < r then L.set r v else L
theorem setR_ok {L : List Int} (h : CpuOK L) (r : Nat) {v : Int} (hv : Wd v) : CpuOK (setR L r v) := by
  unfold setR
  split
  · exact h.set hv
  · exact h
set_option maxHeartbeats 2000000 in
theorem set_any (L : List Int) (r : Nat) (v : Int) (hL : CpuOK L) (hr : r ≤ 15) (w : World) : Calls Tryz.prog 95 #[.agg (wA L), .int .i64 (r : Int), .int .u32 v] w (CpuTo (setR L r v) w) := by
  have z1 : (r : Int) < 16 := by omega
  have z2 : (0 : Int) ≤ r := by omega
  by_cases h0 : 0 < r
  · have z3 : (0 : Int) < r := by omega
    have hs : setR L r v = L.set r v := by unfold setR; rw [if_pos h0]
    rw [hs]
    obtain ⟨x0, hcell⟩ : ∃ x0, (wA L)[r]? = some x0 := ⟨_, wA_at (L := L) (j := r) (by rw [hL.len]; omega)⟩
    have hset := wA_set L r v
    have M1 := Lib.hid (((Mem.start w).alloc (wA (L.set r v)) 44).alloc' (b := w.heap.size + 1) (by simp) z25 44)
    have HZ : Is (wA (L.set r v)).size 25 := ⟨by rw [wA_size]; (try simp only [List.length_set]); exact hL.len⟩
    have H1 := Lib.hid (wA_one (L.set r v))
    obtain ⟨cB, hcB⟩ : ∃ cB, wA (L.set r v) = cB := ⟨_, rfl⟩
    obtain ⟨cA, hcA⟩ : ∃ cA, wA L = cA := ⟨_, rfl⟩
    unfold CpuTo
    rw [hcA] at hcell hset ⊢
    rw [hcB] at M1 hset H1 HZ ⊢
    clear hL hs hcA hcB
    go_enter Tryz.func95, Tryz.ntmps95
    go_wp2_with (first
      | (show wpList _ _ _ ((⟨_, Op.load 44 _, _, _, _, _⟩ : Oper) :: _) _ _; refine Mem.go_loadAll 44 rfl rfl rfl 0 M1.out rfl uCpu (by rw [HZ.out]; exact sCpu) ?_)
      | (show wpList _ _ _ ((⟨_, Op.store 44 _ _, _, _, _, _⟩ : Oper) :: _) _ _; refine Mem.go_storeAll 44 rfl rfl rfl rfl 1 M1.out rfl (by rw [HZ.out]; exact sCpu) (by rw [HZ.out]; rfl) H1.out ?_; intro w2 M2'; have M2 := Lib.hid M2'; clear M2'))
    refine bodyPost_ret (Bx.res_c Tryz.results95 rfl (load_w HZ.out (M2.out.blk 1 rfl))) rfl ?_
    exact ⟨rfl, M2.out.held⟩
  · have z3 : ¬ (0 : Int) < r := by omega
    have hs : setR L r v = L := by unfold setR; rw [if_neg h0]
    rw [hs]
    have M1 := Lib.hid (((Mem.start w).alloc (wA (L)) 44).alloc' (b := w.heap.size + 1) (by simp) z25 44)
    have HZ : Is (wA (L)).size 25 := ⟨by rw [wA_size]; (try simp only [List.length_set]); exact hL.len⟩
    have H1 := Lib.hid (wA_one (L))
    obtain ⟨cB, hcB⟩ : ∃ cB, wA (L) = cB := ⟨_, rfl⟩
    obtain ⟨cA, hcA⟩ : ∃ cA, wA L = cA := ⟨_, rfl⟩
    unfold CpuTo
    rw [hcA] at hcB ⊢
    subst hcB
    rw [hcA] at M1 H1 HZ
    clear hL hs hcA
    go_enter Tryz.func95, Tryz.ntmps95
    go_wp2_with (first
      | (show wpList _ _ _ ((⟨_, Op.load 44 _, _, _, _, _⟩ : Oper) :: _) _ _; refine Mem.go_loadAll 44 rfl rfl rfl 0 M1.out rfl uCpu (by rw [HZ.out]; exact sCpu) ?_)
      | (show wpList _ _ _ ((⟨_, Op.store 44 _ _, _, _, _, _⟩ : Oper) :: _) _ _; refine Mem.go_storeAll 44 rfl rfl rfl rfl 1 M1.out rfl (by rw [HZ.out]; exact sCpu) (by rw [HZ.out]; rfl) H1.out ?_; intro w2 M2'; have M2 := Lib.hid M2'; clear M2'))
    refine bodyPost_ret (Bx.res_c Tryz.results95 rfl (load_w HZ.out (M2.out.blk 1 rfl))) rfl ?_
    exact ⟨rfl, M2.out.held⟩
theorem bit_any (b : Bool) (w : World) : Calls Tryz.prog 144 #[.bool b] w fun e w' => e = .returned (.int .u32 (if b = true then 1 else 0)) ∧ w = w' := by
  cases b
  all_goals
    go_enter Tryz.func144, Tryz.ntmps144
    go_wp2
    go_ret
    exact ⟨rfl, rfl⟩
def trapS (s : Int) : Int := bits .or .u32 (bits .or .u32 (bits .andNot .u32 s 24) (if bits .and .u32 s 1 = 0 then 0 else 8)) (if bits .and .u32 s 2 = 0 then 0 else 16)
def trapL (L : List Int) (cause bad : Int) : List Int := ((((L.set 19 (L.getD 16 0)).set 20 cause).set 21 bad).set 17 (bits .or .u32 (bits .andNot .u32 (trapS (L.getD 17 0)) 2) 1)).set 16 (L.getD 18 0)
theorem trapL_ok {L : List Int} (h : CpuOK L) {cause bad : Int} (h1 : Wd cause) (h2 : Wd bad) : CpuOK (trapL L cause bad) :=
  ((((h.set (h.at_ 16)).set h1).set h2).set (bits_wd _ _ _)).set (h.at_ 18)
set_option maxHeartbeats 4000000 in
theorem trap_any (L : List Int) (cause bad : Int) (hL : CpuOK L) (hc : 0 ≤ cause ∧ cause ≤ 100) (w : World) : Calls Tryz.prog 114 #[.agg (wA L), .int .i64 cause, .int .u32 bad] w (CpuTo (trapL L cause bad) w) := by
  obtain ⟨zc1, zc2⟩ := hc
  have HBT := Lib.hid fun b w => bit_any b w
  have c16 := wA_at (L := L) (j := 16) (by rw [hL.len]; decide)
  have c17 := wA_at (L := L) (j := 17) (by rw [hL.len]; decide)
  have c18 := wA_at (L := L) (j := 18) (by rw [hL.len]; decide)
  have c19 := wA_at (L := L) (j := 19) (by rw [hL.len]; decide)
  have c20 := wA_at (L := L) (j := 20) (by rw [hL.len]; decide)
  have c21 := wA_at (L := L) (j := 21) (by rw [hL.len]; decide)
  unfold trapL
  obtain ⟨p, hp⟩ : ∃ p, L.getD 16 0 = p := ⟨_, rfl⟩
  obtain ⟨s, hs⟩ : ∃ s, L.getD 17 0 = s := ⟨_, rfl⟩
  obtain ⟨v, hv⟩ : ∃ v, L.getD 18 0 = v := ⟨_, rfl⟩
  rw [hp] at c16
  rw [hs] at c17
  rw [hv] at c18
  rw [hp, hs, hv]
  obtain ⟨st, hst⟩ : ∃ st, bits .or .u32 (bits .andNot .u32 (trapS s) 2) 1 = st := ⟨_, rfl⟩
  have HST := Lib.hid hst
  have hch : ((((((wA L).setIfInBounds 19 (.int .u32 p)).setIfInBounds 20 (.int .u32 cause)).setIfInBounds 21 (.int .u32 bad)).setIfInBounds 17 (.int .u32 st)).setIfInBounds 16 (.int .u32 v)) = wA (((((L.set 19 p).set 20 cause).set 21 bad).set 17 st).set 16 v) := by
    simp only [wA_set]
  rw [hst]
  have M1 := Lib.hid (((Mem.start w).alloc (wA (((((L.set 19 p).set 20 cause).set 21 bad).set 17 st).set 16 v)) 44).alloc' (b := w.heap.size + 1) (by simp) z25 44)
  have HZ : Is (wA (((((L.set 19 p).set 20 cause).set 21 bad).set 17 st).set 16 v)).size 25 := ⟨by rw [wA_size]; (try simp only [List.length_set]); exact hL.len⟩
  have H1 := Lib.hid (wA_one (((((L.set 19 p).set 20 cause).set 21 bad).set 17 st).set 16 v))
  obtain ⟨cB, hcB⟩ : ∃ cB, wA (((((L.set 19 p).set 20 cause).set 21 bad).set 17 st).set 16 v) = cB := ⟨_, rfl⟩
  obtain ⟨cA, hcA⟩ : ∃ cA, wA L = cA := ⟨_, rfl⟩
  unfold CpuTo
  rw [hcB] at M1 hch H1 HZ ⊢
  rw [hcA] at hch c16 c17 c18 c19 c20 c21 ⊢
  rw [← hch] at M1 HZ H1
  have HCB : Is cB _ := ⟨hch.symm⟩
  rw [HCB.out]
  clear hL hp hs hv hst hcA hcB hch HCB
  by_cases g1 : bits .and .u32 s 1 = 0
  · by_cases g2 : bits .and .u32 s 2 = 0
    · have hst := HST.out
      unfold trapS at hst
      rw [if_pos g1, if_pos g2] at hst
      clear HST
      go_enter Tryz.func114, Tryz.ntmps114
      go_wp2_with fail
      refine (HBT.out _ _).mono ?_
      rintro e w3 ⟨rfl, rfl⟩
      go_wp2_with fail
      refine (HBT.out _ _).mono ?_
      rintro e w3 ⟨rfl, rfl⟩
      go_wp2_with (first
        | (show wpList _ _ _ ((⟨_, Op.load 44 _, _, _, _, _⟩ : Oper) :: _) _ _; refine Mem.go_loadAll 44 rfl rfl rfl 0 M1.out rfl uCpu (by rw [HZ.out]; exact sCpu) ?_)
        | (show wpList _ _ _ ((⟨_, Op.store 44 _ _, _, _, _, _⟩ : Oper) :: _) _ _; refine Mem.go_storeAll 44 rfl rfl rfl rfl 1 M1.out rfl (by rw [HZ.out]; exact sCpu) (by rw [HZ.out]; rfl) H1.out ?_; intro w2 M2'; have M2 := Lib.hid M2'; clear M2'))
      refine bodyPost_ret (Bx.res_c Tryz.results114 rfl (load_w HZ.out (M2.out.blk 1 rfl))) rfl ?_
      exact ⟨rfl, M2.out.held⟩
    · have hst := HST.out
      unfold trapS at hst
      rw [if_pos g1, if_neg g2] at hst
      clear HST
      go_enter Tryz.func114, Tryz.ntmps114
      go_wp2_with fail
      refine (HBT.out _ _).mono ?_
      rintro e w3 ⟨rfl, rfl⟩
      go_wp2_with fail
      refine (HBT.out _ _).mono ?_
      rintro e w3 ⟨rfl, rfl⟩
      go_wp2_with (first
        | (show wpList _ _ _ ((⟨_, Op.load 44 _, _, _, _, _⟩ : Oper) :: _) _ _; refine Mem.go_loadAll 44 rfl rfl rfl 0 M1.out rfl uCpu (by rw [HZ.out]; exact sCpu) ?_)
        | (show wpList _ _ _ ((⟨_, Op.store 44 _ _, _, _, _, _⟩ : Oper) :: _) _ _; refine Mem.go_storeAll 44 rfl rfl rfl rfl 1 M1.out rfl (by rw [HZ.out]; exact sCpu) (by rw [HZ.out]; rfl) H1.out ?_; intro w2 M2'; have M2 := Lib.hid M2'; clear M2'))
      refine bodyPost_ret (Bx.res_c Tryz.results114 rfl (load_w HZ.out (M2.out.blk 1 rfl))) rfl ?_
      exact ⟨rfl, M2.out.held⟩
  · by_cases g2 : bits .and .u32 s 2 = 0
    · have hst := HST.out
      unfold trapS at hst
      rw [if_neg g1, if_pos g2] at hst
      clear HST
      go_enter Tryz.func114, Tryz.ntmps114
      go_wp2_with fail
      refine (HBT.out _ _).mono ?_
      rintro e w3 ⟨rfl, rfl⟩
      go_wp2_with fail
      refine (HBT.out _ _).mono ?_
      rintro e w3 ⟨rfl, rfl⟩
      go_wp2_with (first
        | (show wpList _ _ _ ((⟨_, Op.load 44 _, _, _, _, _⟩ : Oper) :: _) _ _; refine Mem.go_loadAll 44 rfl rfl rfl 0 M1.out rfl uCpu (by rw [HZ.out]; exact sCpu) ?_)
        | (show wpList _ _ _ ((⟨_, Op.store 44 _ _, _, _, _, _⟩ : Oper) :: _) _ _; refine Mem.go_storeAll 44 rfl rfl rfl rfl 1 M1.out rfl (by rw [HZ.out]; exact sCpu) (by rw [HZ.out]; rfl) H1.out ?_; intro w2 M2'; have M2 := Lib.hid M2'; clear M2'))
      refine bodyPost_ret (Bx.res_c Tryz.results114 rfl (load_w HZ.out (M2.out.blk 1 rfl))) rfl ?_
      exact ⟨rfl, M2.out.held⟩
    · have hst := HST.out
      unfold trapS at hst
      rw [if_neg g1, if_neg g2] at hst
      clear HST
      go_enter Tryz.func114, Tryz.ntmps114
      go_wp2_with fail
      refine (HBT.out _ _).mono ?_
      rintro e w3 ⟨rfl, rfl⟩
      go_wp2_with fail
      refine (HBT.out _ _).mono ?_
      rintro e w3 ⟨rfl, rfl⟩
      go_wp2_with (first
        | (show wpList _ _ _ ((⟨_, Op.load 44 _, _, _, _, _⟩ : Oper) :: _) _ _; refine Mem.go_loadAll 44 rfl rfl rfl 0 M1.out rfl uCpu (by rw [HZ.out]; exact sCpu) ?_)
        | (show wpList _ _ _ ((⟨_, Op.store 44 _ _, _, _, _, _⟩ : Oper) :: _) _ _; refine Mem.go_storeAll 44 rfl rfl rfl rfl 1 M1.out rfl (by rw [HZ.out]; exact sCpu) (by rw [HZ.out]; rfl) H1.out ?_; intro w2 M2'; have M2 := Lib.hid M2'; clear M2'))
      refine bodyPost_ret (Bx.res_c Tryz.results114 rfl (load_w HZ.out (M2.out.blk 1 rfl))) rfl ?_
      exact ⟨rfl, M2.out.held⟩
end Ma
end Go.Proofs.YtdacgdokbfcgdaaGreat

namespace Go.Proofs.YtdacgdokbfcgdaaGreat
open Go.RowKit Go.BigFrame Go.Sort Go.Lib
namespace Ma
/-- Some processor. -/
def CpuSome (w : World) (e : Ending) (w' : World) : Prop := ∃ L', e = .returned (.agg (wA L')) ∧ CpuOK L' ∧ Held w w'
theorem paged_any (L : List Int) (hL : CpuOK L) (w : World) : Calls Tryz.prog 146 #[.agg (wA L)] w fun e w' => e = .returned (.bool (bits .and .u32 (L.getD 17 0) 5 == 4)) ∧ Held w w' := by
  have c17 := wA_at (L := L) (j := 17) (by rw [hL.len]; decide)
  obtain ⟨s, hs⟩ : ∃ s, L.getD 17 0 = s := ⟨_, rfl⟩
  rw [hs] at c17 ⊢
  obtain ⟨cA, hcA⟩ : ∃ cA, wA L = cA := ⟨_, rfl⟩
  rw [hcA] at c17 ⊢
  clear hL hs hcA
  go_enter Tryz.func146, Tryz.ntmps146
  go_wp2
  go_ret
  exact ⟨rfl, (Held.refl w).alloc _⟩
set_option maxHeartbeats 4000000 in
theorem return_any (L : List Int) (hL : CpuOK L) (w : World) : Calls Tryz.prog 150 #[.agg (wA L)] w (CpuSome w) := by
  have HBT := Lib.hid fun b w => bit_any b w
  have c16 := wA_at (L := L) (j := 16) (by rw [hL.len]; decide)
  have c17 := wA_at (L := L) (j := 17) (by rw [hL.len]; decide)
  have c19 := wA_at (L := L) (j := 19) (by rw [hL.len]; decide)
  obtain ⟨v, hv⟩ : ∃ v, L.getD 19 0 = v := ⟨_, rfl⟩
  have hv2 : Wd v := by rw [← hv]; exact hL.at_ 19
  obtain ⟨s, hs⟩ : ∃ s, L.getD 17 0 = s := ⟨_, rfl⟩
  rw [hs] at c17
  rw [hv] at c19
  clear hs hv
  by_cases g1 : bits .and .u32 s 8 = 0
  · by_cases g2 : bits .and .u32 s 16 = 0
    · obtain ⟨st, hst⟩ : ∃ st, bits .or .u32 (bits .or .u32 (bits .andNot .u32 s 3) 0) 0 = st := ⟨_, rfl⟩
      have hst2 : Wd st := by rw [← hst]; exact bits_wd _ _ _
      have hch : ((wA L).setIfInBounds 17 (.int .u32 st)).setIfInBounds 16 (.int .u32 v) = wA ((L.set 17 st).set 16 v) := by
        simp only [wA_set]
      have HOK := Lib.hid (show CpuOK ((L.set 17 st).set 16 v) from (hL.set hst2).set hv2)
      have M1 := Lib.hid (((Mem.start w).alloc (wA ((L.set 17 st).set 16 v)) 44).alloc' (b := w.heap.size + 1) (by simp) z25 44)
      have HZ : Is (wA ((L.set 17 st).set 16 v)).size 25 := ⟨by rw [wA_size]; (try simp only [List.length_set]); exact hL.len⟩
      have H1 := Lib.hid (wA_one ((L.set 17 st).set 16 v))
      obtain ⟨cB, hcB⟩ : ∃ cB, wA ((L.set 17 st).set 16 v) = cB := ⟨_, rfl⟩
      obtain ⟨cA, hcA⟩ : ∃ cA, wA L = cA := ⟨_, rfl⟩
      rw [hcB] at M1 hch H1 HZ
      rw [hcA] at hch c16 c17 c19 ⊢
      rw [← hch] at M1 HZ H1
      have HCB : Is cB (wA ((L.set 17 st).set 16 v)) := ⟨hcB.symm⟩
      have HC2 : Is cB _ := ⟨hch.symm⟩
      unfold CpuSome
      clear hL hcA hcB hch
      go_enter Tryz.func150, Tryz.ntmps150
      go_wp2_with fail
      refine (HBT.out _ _).mono ?_
      rintro e w3 ⟨rfl, rfl⟩
      go_wp2_with fail
      refine (HBT.out _ _).mono ?_
      rintro e w3 ⟨rfl, rfl⟩
      go_wp2_with (first
        | (show wpList _ _ _ ((⟨_, Op.load 44 _, _, _, _, _⟩ : Oper) :: _) _ _; refine Mem.go_loadAll 44 rfl rfl rfl 0 M1.out rfl uCpu (by rw [HZ.out]; exact sCpu) ?_)
        | (show wpList _ _ _ ((⟨_, Op.store 44 _ _, _, _, _, _⟩ : Oper) :: _) _ _; refine Mem.go_storeAll 44 rfl rfl rfl rfl 1 M1.out rfl (by rw [HZ.out]; exact sCpu) (by rw [HZ.out]; rfl) H1.out ?_; intro w2 M2'; have M2 := Lib.hid M2'; clear M2'))
      refine bodyPost_ret (Bx.res_c Tryz.results150 rfl (load_w HZ.out (M2.out.blk 1 rfl))) rfl ?_
      exact ⟨_, by rw [← HCB.out, HC2.out], HOK.out, M2.out.held⟩
    · obtain ⟨st, hst⟩ : ∃ st, bits .or .u32 (bits .or .u32 (bits .andNot .u32 s 3) 0) 2 = st := ⟨_, rfl⟩
      have hst2 : Wd st := by rw [← hst]; exact bits_wd _ _ _
      have hch : ((wA L).setIfInBounds 17 (.int .u32 st)).setIfInBounds 16 (.int .u32 v) = wA ((L.set 17 st).set 16 v) := by
        simp only [wA_set]
      have HOK := Lib.hid (show CpuOK ((L.set 17 st).set 16 v) from (hL.set hst2).set hv2)
      have M1 := Lib.hid (((Mem.start w).alloc (wA ((L.set 17 st).set 16 v)) 44).alloc' (b := w.heap.size + 1) (by simp) z25 44)
      have HZ : Is (wA ((L.set 17 st).set 16 v)).size 25 := ⟨by rw [wA_size]; (try simp only [List.length_set]); exact hL.len⟩
      have H1 := Lib.hid (wA_one ((L.set 17 st).set 16 v))
      obtain ⟨cB, hcB⟩ : ∃ cB, wA ((L.set 17 st).set 16 v) = cB := ⟨_, rfl⟩
      obtain ⟨cA, hcA⟩ : ∃ cA, wA L = cA := ⟨_, rfl⟩
      rw [hcB] at M1 hch H1 HZ
      rw [hcA] at hch c16 c17 c19 ⊢
      rw [← hch] at M1 HZ H1
      have HCB : Is cB (wA ((L.set 17 st).set 16 v)) := ⟨hcB.symm⟩
      have HC2 : Is cB _ := ⟨hch.symm⟩
      unfold CpuSome
      clear hL hcA hcB hch
      go_enter Tryz.func150, Tryz.ntmps150
      go_wp2_with fail
      refine (HBT.out _ _).mono ?_
      rintro e w3 ⟨rfl, rfl⟩
      go_wp2_with fail
      refine (HBT.out _ _).mono ?_
      rintro e w3 ⟨rfl, rfl⟩
      go_wp2_with (first
        | (show wpList _ _ _ ((⟨_, Op.load 44 _, _, _, _, _⟩ : Oper) :: _) _ _; refine Mem.go_loadAll 44 rfl rfl rfl 0 M1.out rfl uCpu (by rw [HZ.out]; exact sCpu) ?_)
        | (show wpList _ _ _ ((⟨_, Op.store 44 _ _, _, _, _, _⟩ : Oper) :: _) _ _; refine Mem.go_storeAll 44 rfl rfl rfl rfl 1 M1.out rfl (by rw [HZ.out]; exact sCpu) (by rw [HZ.out]; rfl) H1.out ?_; intro w2 M2'; have M2 := Lib.hid M2'; clear M2'))
      refine bodyPost_ret (Bx.res_c Tryz.results150 rfl (load_w HZ.out (M2.out.blk 1 rfl))) rfl ?_
      exact ⟨_, by rw [← HCB.out, HC2.out], HOK.out, M2.out.held⟩
  · by_cases g2 : bits .and .u32 s 16 = 0
    · obtain ⟨st, hst⟩ : ∃ st, bits .or .u32 (bits .or .u32 (bits .andNot .u32 s 3) 1) 0 = st := ⟨_, rfl⟩
      have hst2 : Wd st := by rw [← hst]; exact bits_wd _ _ _
      have hch : ((wA L).setIfInBounds 17 (.int .u32 st)).setIfInBounds 16 (.int .u32 v) = wA ((L.set 17 st).set 16 v) := by
        simp only [wA_set]
      have HOK := Lib.hid (show CpuOK ((L.set 17 st).set 16 v) from (hL.set hst2).set hv2)
      have M1 := Lib.hid (((Mem.start w).alloc (wA ((L.set 17 st).set 16 v)) 44).alloc' (b := w.heap.size + 1) (by simp) z25 44)
      have HZ : Is (wA ((L.set 17 st).set 16 v)).size 25 := ⟨by rw [wA_size]; (try simp only [List.length_set]); exact hL.len⟩
      have H1 := Lib.hid (wA_one ((L.set 17 st).set 16 v))
      obtain ⟨cB, hcB⟩ : ∃ cB, wA ((L.set 17 st).set 16 v) = cB := ⟨_, rfl⟩
      obtain ⟨cA, hcA⟩ : ∃ cA, wA L = cA := ⟨_, rfl⟩
      rw [hcB] at M1 hch H1 HZ
      rw [hcA] at hch c16 c17 c19 ⊢
      rw [← hch] at M1 HZ H1
      have HCB : Is cB (wA ((L.set 17 st).set 16 v)) := ⟨hcB.symm⟩
      have HC2 : Is cB _ := ⟨hch.symm⟩
      unfold CpuSome
      clear hL hcA hcB hch
      go_enter Tryz.func150, Tryz.ntmps150
      go_wp2_with fail
      refine (HBT.out _ _).mono ?_
      rintro e w3 ⟨rfl, rfl⟩
      go_wp2_with fail
      refine (HBT.out _ _).mono ?_
      rintro e w3 ⟨rfl, rfl⟩
      go_wp2_with (first
        | (show wpList _ _ _ ((⟨_, Op.load 44 _, _, _, _, _⟩ : Oper) :: _) _ _; refine Mem.go_loadAll 44 rfl rfl rfl 0 M1.out rfl uCpu (by rw [HZ.out]; exact sCpu) ?_)
        | (show wpList _ _ _ ((⟨_, Op.store 44 _ _, _, _, _, _⟩ : Oper) :: _) _ _; refine Mem.go_storeAll 44 rfl rfl rfl rfl 1 M1.out rfl (by rw [HZ.out]; exact sCpu) (by rw [HZ.out]; rfl) H1.out ?_; intro w2 M2'; have M2 := Lib.hid M2'; clear M2'))
      refine bodyPost_ret (Bx.res_c Tryz.results150 rfl (load_w HZ.out (M2.out.blk 1 rfl))) rfl ?_
      exact ⟨_, by rw [← HCB.out, HC2.out], HOK.out, M2.out.held⟩
    · obtain ⟨st, hst⟩ : ∃ st, bits .or .u32 (bits .or .u32 (bits .andNot .u32 s 3) 1) 2 = st := ⟨_, rfl⟩
      have hst2 : Wd st := by rw [← hst]; exact bits_wd _ _ _
      have hch : ((wA L).setIfInBounds 17 (.int .u32 st)).setIfInBounds 16 (.int .u32 v) = wA ((L.set 17 st).set 16 v) := by
        simp only [wA_set]
      have HOK := Lib.hid (show CpuOK ((L.set 17 st).set 16 v) from (hL.set hst2).set hv2)
      have M1 := Lib.hid (((Mem.start w).alloc (wA ((L.set 17 st).set 16 v)) 44).alloc' (b := w.heap.size + 1) (by simp) z25 44)
      have HZ : Is (wA ((L.set 17 st).set 16 v)).size 25 := ⟨by rw [wA_size]; (try simp only [List.length_set]); exact hL.len⟩
      have H1 := Lib.hid (wA_one ((L.set 17 st).set 16 v))
      obtain ⟨cB, hcB⟩ : ∃ cB, wA ((L.set 17 st).set 16 v) = cB := ⟨_, rfl⟩
      obtain ⟨cA, hcA⟩ : ∃ cA, wA L = cA := ⟨_, rfl⟩
      rw [hcB] at M1 hch H1 HZ
      rw [hcA] at hch c16 c17 c19 ⊢
      rw [← hch] at M1 HZ H1
      have HCB : Is cB (wA ((L.set 17 st).set 16 v)) := ⟨hcB.symm⟩
      have HC2 : Is cB _ := ⟨hch.symm⟩
      unfold CpuSome
      clear hL hcA hcB hch
      go_enter Tryz.func150, Tryz.ntmps150
      go_wp2_with fail
      refine (HBT.out _ _).mono ?_
      rintro e w3 ⟨rfl, rfl⟩
      go_wp2_with fail
      refine (HBT.out _ _).mono ?_
      rintro e w3 ⟨rfl, rfl⟩
      go_wp2_with (first
        | (show wpList _ _ _ ((⟨_, Op.load 44 _, _, _, _, _⟩ : Oper) :: _) _ _; refine Mem.go_loadAll 44 rfl rfl rfl 0 M1.out rfl uCpu (by rw [HZ.out]; exact sCpu) ?_)
        | (show wpList _ _ _ ((⟨_, Op.store 44 _ _, _, _, _, _⟩ : Oper) :: _) _ _; refine Mem.go_storeAll 44 rfl rfl rfl rfl 1 M1.out rfl (by rw [HZ.out]; exact sCpu) (by rw [HZ.out]; rfl) H1.out ?_; intro w2 M2'; have M2 := Lib.hid M2'; clear M2'))
      refine bodyPost_ret (Bx.res_c Tryz.results150 rfl (load_w HZ.out (M2.out.blk 1 rfl))) rfl ?_
      exact ⟨_, by rw [← HCB.out, HC2.out], HOK.out, M2.out.held⟩
set_option maxHeartbeats 4000000 in
theorem write_any (L : List Int) (r : Nat) (v : Int) (hL : CpuOK L) (hv : Wd v) (hr : r ≤ 7) (w : World) : Calls Tryz.prog 151 #[.agg (wA L), .int .i64 (r : Int), .int .u32 v] w (CpuSome w) := by
  rcases (by omega : r = 0 ∨ r = 1 ∨ r = 2 ∨ r = 3 ∨ r = 4 ∨ r = 5 ∨ r = 6 ∨ r = 7) with rfl | rfl | rfl | rfl | rfl | rfl | rfl | rfl
  · have c17 := wA_at (L := L) (j := 17) (by rw [hL.len]; decide)
    have hch : (wA L).setIfInBounds 17 (.int .u32 (bits .and .u32 v 31)) = wA (L.set 17 (bits .and .u32 v 31)) := by
      simp only [wA_set]
    have HOK := Lib.hid (show CpuOK (L.set 17 (bits .and .u32 v 31)) from hL.set (bits_wd _ _ _))
    have M1 := Lib.hid (((Mem.start w).alloc (wA (L.set 17 (bits .and .u32 v 31))) 44).alloc' (b := w.heap.size + 1) (by simp) z25 44)
    have HZ : Is (wA (L.set 17 (bits .and .u32 v 31))).size 25 := ⟨by rw [wA_size]; (try simp only [List.length_set]); exact hL.len⟩
    have H1 := Lib.hid (wA_one (L.set 17 (bits .and .u32 v 31)))
    obtain ⟨cB, hcB⟩ : ∃ cB, wA (L.set 17 (bits .and .u32 v 31)) = cB := ⟨_, rfl⟩
    obtain ⟨cA, hcA⟩ : ∃ cA, wA L = cA := ⟨_, rfl⟩
    rw [hcB] at M1 hch H1 HZ
    rw [hcA] at hch c17 ⊢
    rw [← hch] at M1 HZ H1
    have HCB : Is cB (wA (L.set 17 (bits .and .u32 v 31))) := ⟨hcB.symm⟩
    have HC2 : Is cB _ := ⟨hch.symm⟩
    unfold CpuSome
    clear hL hcA hcB hch
    go_enter Tryz.func151, Tryz.ntmps151
    go_wp2_with (first
      | (show wpList _ _ _ ((⟨_, Op.load 44 _, _, _, _, _⟩ : Oper) :: _) _ _; refine Mem.go_loadAll 44 rfl rfl rfl 0 M1.out rfl uCpu (by rw [HZ.out]; exact sCpu) ?_)
      | (show wpList _ _ _ ((⟨_, Op.store 44 _ _, _, _, _, _⟩ : Oper) :: _) _ _; refine Mem.go_storeAll 44 rfl rfl rfl rfl 1 M1.out rfl (by rw [HZ.out]; exact sCpu) (by rw [HZ.out]; rfl) H1.out ?_; intro w2 M2'; have M2 := Lib.hid M2'; clear M2'))
    refine bodyPost_ret (Bx.res_c Tryz.results151 rfl (load_w HZ.out (M2.out.blk 1 rfl))) rfl ?_
    exact ⟨_, by rw [← HCB.out, HC2.out], HOK.out, M2.out.held⟩
  · have c18 := wA_at (L := L) (j := 18) (by rw [hL.len]; decide)
    have hch : (wA L).setIfInBounds 18 (.int .u32 (bits .andNot .u32 v 3)) = wA (L.set 18 (bits .andNot .u32 v 3)) := by
      simp only [wA_set]
    have HOK := Lib.hid (show CpuOK (L.set 18 (bits .andNot .u32 v 3)) from hL.set (bits_wd _ _ _))
    have M1 := Lib.hid (((Mem.start w).alloc (wA (L.set 18 (bits .andNot .u32 v 3))) 44).alloc' (b := w.heap.size + 1) (by simp) z25 44)
    have HZ : Is (wA (L.set 18 (bits .andNot .u32 v 3))).size 25 := ⟨by rw [wA_size]; (try simp only [List.length_set]); exact hL.len⟩
    have H1 := Lib.hid (wA_one (L.set 18 (bits .andNot .u32 v 3)))
    obtain ⟨cB, hcB⟩ : ∃ cB, wA (L.set 18 (bits .andNot .u32 v 3)) = cB := ⟨_, rfl⟩
    obtain ⟨cA, hcA⟩ : ∃ cA, wA L = cA := ⟨_, rfl⟩
    rw [hcB] at M1 hch H1 HZ
    rw [hcA] at hch c18 ⊢
    rw [← hch] at M1 HZ H1
    have HCB : Is cB (wA (L.set 18 (bits .andNot .u32 v 3))) := ⟨hcB.symm⟩
    have HC2 : Is cB _ := ⟨hch.symm⟩
    unfold CpuSome
    clear hL hcA hcB hch
    go_enter Tryz.func151, Tryz.ntmps151
    go_wp2_with (first
      | (show wpList _ _ _ ((⟨_, Op.load 44 _, _, _, _, _⟩ : Oper) :: _) _ _; refine Mem.go_loadAll 44 rfl rfl rfl 0 M1.out rfl uCpu (by rw [HZ.out]; exact sCpu) ?_)
      | (show wpList _ _ _ ((⟨_, Op.store 44 _ _, _, _, _, _⟩ : Oper) :: _) _ _; refine Mem.go_storeAll 44 rfl rfl rfl rfl 1 M1.out rfl (by rw [HZ.out]; exact sCpu) (by rw [HZ.out]; rfl) H1.out ?_; intro w2 M2'; have M2 := Lib.hid M2'; clear M2'))
    refine bodyPost_ret (Bx.res_c Tryz.results151 rfl (load_w HZ.out (M2.out.blk 1 rfl))) rfl ?_
    exact ⟨_, by rw [← HCB.out, HC2.out], HOK.out, M2.out.held⟩
  · have c19 := wA_at (L := L) (j := 19) (by rw [hL.len]; decide)
    have hch : (wA L).setIfInBounds 19 (.int .u32 (bits .andNot .u32 v 3)) = wA (L.set 19 (bits .andNot .u32 v 3)) := by
      simp only [wA_set]
    have HOK := Lib.hid (show CpuOK (L.set 19 (bits .andNot .u32 v 3)) from hL.set (bits_wd _ _ _))
    have M1 := Lib.hid (((Mem.start w).alloc (wA (L.set 19 (bits .andNot .u32 v 3))) 44).alloc' (b := w.heap.size + 1) (by simp) z25 44)
    have HZ : Is (wA (L.set 19 (bits .andNot .u32 v 3))).size 25 := ⟨by rw [wA_size]; (try simp only [List.length_set]); exact hL.len⟩
    have H1 := Lib.hid (wA_one (L.set 19 (bits .andNot .u32 v 3)))
    obtain ⟨cB, hcB⟩ : ∃ cB, wA (L.set 19 (bits .andNot .u32 v 3)) = cB := ⟨_, rfl⟩
    obtain ⟨cA, hcA⟩ : ∃ cA, wA L = cA := ⟨_, rfl⟩
    rw [hcB] at M1 hch H1 HZ
    rw [hcA] at hch c19 ⊢
    rw [← hch] at M1 HZ H1
    have HCB : Is cB (wA (L.set 19 (bits .andNot .u32 v 3))) := ⟨hcB.symm⟩
    have HC2 : Is cB _ := ⟨hch.symm⟩
    unfold CpuSome
    clear hL hcA hcB hch
    go_enter Tryz.func151, Tryz.ntmps151
    go_wp2_with (first
      | (show wpList _ _ _ ((⟨_, Op.load 44 _, _, _, _, _⟩ : Oper) :: _) _ _; refine Mem.go_loadAll 44 rfl rfl rfl 0 M1.out rfl uCpu (by rw [HZ.out]; exact sCpu) ?_)
      | (show wpList _ _ _ ((⟨_, Op.store 44 _ _, _, _, _, _⟩ : Oper) :: _) _ _; refine Mem.go_storeAll 44 rfl rfl rfl rfl 1 M1.out rfl (by rw [HZ.out]; exact sCpu) (by rw [HZ.out]; rfl) H1.out ?_; intro w2 M2'; have M2 := Lib.hid M2'; clear M2'))
    refine bodyPost_ret (Bx.res_c Tryz.results151 rfl (load_w HZ.out (M2.out.blk 1 rfl))) rfl ?_
    exact ⟨_, by rw [← HCB.out, HC2.out], HOK.out, M2.out.held⟩
  · have c20 := wA_at (L := L) (j := 20) (by rw [hL.len]; decide)
    have hch : (wA L).setIfInBounds 20 (.int .u32 (v)) = wA (L.set 20 (v)) := by
      simp only [wA_set]
    have HOK := Lib.hid (show CpuOK (L.set 20 (v)) from hL.set (hv))
    have M1 := Lib.hid (((Mem.start w).alloc (wA (L.set 20 (v))) 44).alloc' (b := w.heap.size + 1) (by simp) z25 44)
    have HZ : Is (wA (L.set 20 (v))).size 25 := ⟨by rw [wA_size]; (try simp only [List.length_set]); exact hL.len⟩
    have H1 := Lib.hid (wA_one (L.set 20 (v)))
    obtain ⟨cB, hcB⟩ : ∃ cB, wA (L.set 20 (v)) = cB := ⟨_, rfl⟩
    obtain ⟨cA, hcA⟩ : ∃ cA, wA L = cA := ⟨_, rfl⟩
    rw [hcB] at M1 hch H1 HZ
    rw [hcA] at hch c20 ⊢
    rw [← hch] at M1 HZ H1
    have HCB : Is cB (wA (L.set 20 (v))) := ⟨hcB.symm⟩
    have HC2 : Is cB _ := ⟨hch.symm⟩
    unfold CpuSome
    clear hL hcA hcB hch
    go_enter Tryz.func151, Tryz.ntmps151
    go_wp2_with (first
      | (show wpList _ _ _ ((⟨_, Op.load 44 _, _, _, _, _⟩ : Oper) :: _) _ _; refine Mem.go_loadAll 44 rfl rfl rfl 0 M1.out rfl uCpu (by rw [HZ.out]; exact sCpu) ?_)
      | (show wpList _ _ _ ((⟨_, Op.store 44 _ _, _, _, _, _⟩ : Oper) :: _) _ _; refine Mem.go_storeAll 44 rfl rfl rfl rfl 1 M1.out rfl (by rw [HZ.out]; exact sCpu) (by rw [HZ.out]; rfl) H1.out ?_; intro w2 M2'; have M2 := Lib.hid M2'; clear M2'))
    refine bodyPost_ret (Bx.res_c Tryz.results151 rfl (load_w HZ.out (M2.out.blk 1 rfl))) rfl ?_
    exact ⟨_, by rw [← HCB.out, HC2.out], HOK.out, M2.out.held⟩
  · have c21 := wA_at (L := L) (j := 21) (by rw [hL.len]; decide)
    have hch : (wA L).setIfInBounds 21 (.int .u32 (v)) = wA (L.set 21 (v)) := by
      simp only [wA_set]
    have HOK := Lib.hid (show CpuOK (L.set 21 (v)) from hL.set (hv))
    have M1 := Lib.hid (((Mem.start w).alloc (wA (L.set 21 (v))) 44).alloc' (b := w.heap.size + 1) (by simp) z25 44)
    have HZ : Is (wA (L.set 21 (v))).size 25 := ⟨by rw [wA_size]; (try simp only [List.length_set]); exact hL.len⟩
    have H1 := Lib.hid (wA_one (L.set 21 (v)))
    obtain ⟨cB, hcB⟩ : ∃ cB, wA (L.set 21 (v)) = cB := ⟨_, rfl⟩
    obtain ⟨cA, hcA⟩ : ∃ cA, wA L = cA := ⟨_, rfl⟩
    rw [hcB] at M1 hch H1 HZ
    rw [hcA] at hch c21 ⊢
    rw [← hch] at M1 HZ H1
    have HCB : Is cB (wA (L.set 21 (v))) := ⟨hcB.symm⟩
    have HC2 : Is cB _ := ⟨hch.symm⟩
    unfold CpuSome
    clear hL hcA hcB hch
    go_enter Tryz.func151, Tryz.ntmps151
    go_wp2_with (first
      | (show wpList _ _ _ ((⟨_, Op.load 44 _, _, _, _, _⟩ : Oper) :: _) _ _; refine Mem.go_loadAll 44 rfl rfl rfl 0 M1.out rfl uCpu (by rw [HZ.out]; exact sCpu) ?_)
      | (show wpList _ _ _ ((⟨_, Op.store 44 _ _, _, _, _, _⟩ : Oper) :: _) _ _; refine Mem.go_storeAll 44 rfl rfl rfl rfl 1 M1.out rfl (by rw [HZ.out]; exact sCpu) (by rw [HZ.out]; rfl) H1.out ?_; intro w2 M2'; have M2 := Lib.hid M2'; clear M2'))
    refine bodyPost_ret (Bx.res_c Tryz.results151 rfl (load_w HZ.out (M2.out.blk 1 rfl))) rfl ?_
    exact ⟨_, by rw [← HCB.out, HC2.out], HOK.out, M2.out.held⟩
  · have c22 := wA_at (L := L) (j := 22) (by rw [hL.len]; decide)
    have hch : (wA L).setIfInBounds 22 (.int .u32 (v)) = wA (L.set 22 (v)) := by
      simp only [wA_set]
    have HOK := Lib.hid (show CpuOK (L.set 22 (v)) from hL.set (hv))
    have M1 := Lib.hid (((Mem.start w).alloc (wA (L.set 22 (v))) 44).alloc' (b := w.heap.size + 1) (by simp) z25 44)
    have HZ : Is (wA (L.set 22 (v))).size 25 := ⟨by rw [wA_size]; (try simp only [List.length_set]); exact hL.len⟩
    have H1 := Lib.hid (wA_one (L.set 22 (v)))
    obtain ⟨cB, hcB⟩ : ∃ cB, wA (L.set 22 (v)) = cB := ⟨_, rfl⟩
    obtain ⟨cA, hcA⟩ : ∃ cA, wA L = cA := ⟨_, rfl⟩
    rw [hcB] at M1 hch H1 HZ
    rw [hcA] at hch c22 ⊢
    rw [← hch] at M1 HZ H1
    have HCB : Is cB (wA (L.set 22 (v))) := ⟨hcB.symm⟩
    have HC2 : Is cB _ := ⟨hch.symm⟩
    unfold CpuSome
    clear hL hcA hcB hch
    go_enter Tryz.func151, Tryz.ntmps151
    go_wp2_with (first
      | (show wpList _ _ _ ((⟨_, Op.load 44 _, _, _, _, _⟩ : Oper) :: _) _ _; refine Mem.go_loadAll 44 rfl rfl rfl 0 M1.out rfl uCpu (by rw [HZ.out]; exact sCpu) ?_)
      | (show wpList _ _ _ ((⟨_, Op.store 44 _ _, _, _, _, _⟩ : Oper) :: _) _ _; refine Mem.go_storeAll 44 rfl rfl rfl rfl 1 M1.out rfl (by rw [HZ.out]; exact sCpu) (by rw [HZ.out]; rfl) H1.out ?_; intro w2 M2'; have M2 := Lib.hid M2'; clear M2'))
    refine bodyPost_ret (Bx.res_c Tryz.results151 rfl (load_w HZ.out (M2.out.blk 1 rfl))) rfl ?_
    exact ⟨_, by rw [← HCB.out, HC2.out], HOK.out, M2.out.held⟩
  · have c23 := wA_at (L := L) (j := 23) (by rw [hL.len]; decide)
    have hch : (wA L).setIfInBounds 23 (.int .u32 (bits .and .u32 v 255)) = wA (L.set 23 (bits .and .u32 v 255)) := by
      simp only [wA_set]
    have HOK := Lib.hid (show CpuOK (L.set 23 (bits .and .u32 v 255)) from hL.set (bits_wd _ _ _))
    have M1 := Lib.hid (((Mem.start w).alloc (wA (L.set 23 (bits .and .u32 v 255))) 44).alloc' (b := w.heap.size + 1) (by simp) z25 44)
    have HZ : Is (wA (L.set 23 (bits .and .u32 v 255))).size 25 := ⟨by rw [wA_size]; (try simp only [List.length_set]); exact hL.len⟩
    have H1 := Lib.hid (wA_one (L.set 23 (bits .and .u32 v 255)))
    obtain ⟨cB, hcB⟩ : ∃ cB, wA (L.set 23 (bits .and .u32 v 255)) = cB := ⟨_, rfl⟩
    obtain ⟨cA, hcA⟩ : ∃ cA, wA L = cA := ⟨_, rfl⟩
    rw [hcB] at M1 hch H1 HZ
    rw [hcA] at hch c23 ⊢
    rw [← hch] at M1 HZ H1
    have HCB : Is cB (wA (L.set 23 (bits .and .u32 v 255))) := ⟨hcB.symm⟩
    have HC2 : Is cB _ := ⟨hch.symm⟩
    unfold CpuSome
    clear hL hcA hcB hch
    go_enter Tryz.func151, Tryz.ntmps151
    go_wp2_with (first
      | (show wpList _ _ _ ((⟨_, Op.load 44 _, _, _, _, _⟩ : Oper) :: _) _ _; refine Mem.go_loadAll 44 rfl rfl rfl 0 M1.out rfl uCpu (by rw [HZ.out]; exact sCpu) ?_)
      | (show wpList _ _ _ ((⟨_, Op.store 44 _ _, _, _, _, _⟩ : Oper) :: _) _ _; refine Mem.go_storeAll 44 rfl rfl rfl rfl 1 M1.out rfl (by rw [HZ.out]; exact sCpu) (by rw [HZ.out]; rfl) H1.out ?_; intro w2 M2'; have M2 := Lib.hid M2'; clear M2'))
    refine bodyPost_ret (Bx.res_c Tryz.results151 rfl (load_w HZ.out (M2.out.blk 1 rfl))) rfl ?_
    exact ⟨_, by rw [← HCB.out, HC2.out], HOK.out, M2.out.held⟩
  · have c24 := wA_at (L := L) (j := 24) (by rw [hL.len]; decide)
    have hch : (wA L).setIfInBounds 24 (.int .u32 (bits .and .u32 v 31)) = wA (L.set 24 (bits .and .u32 v 31)) := by
      simp only [wA_set]
    have HOK := Lib.hid (show CpuOK (L.set 24 (bits .and .u32 v 31)) from hL.set (bits_wd _ _ _))
    have M1 := Lib.hid (((Mem.start w).alloc (wA (L.set 24 (bits .and .u32 v 31))) 44).alloc' (b := w.heap.size + 1) (by simp) z25 44)
    have HZ : Is (wA (L.set 24 (bits .and .u32 v 31))).size 25 := ⟨by rw [wA_size]; (try simp only [List.length_set]); exact hL.len⟩
    have H1 := Lib.hid (wA_one (L.set 24 (bits .and .u32 v 31)))
    obtain ⟨cB, hcB⟩ : ∃ cB, wA (L.set 24 (bits .and .u32 v 31)) = cB := ⟨_, rfl⟩
    obtain ⟨cA, hcA⟩ : ∃ cA, wA L = cA := ⟨_, rfl⟩
    rw [hcB] at M1 hch H1 HZ
    rw [hcA] at hch c24 ⊢
    rw [← hch] at M1 HZ H1
    have HCB : Is cB (wA (L.set 24 (bits .and .u32 v 31))) := ⟨hcB.symm⟩
    have HC2 : Is cB _ := ⟨hch.symm⟩
    unfold CpuSome
    clear hL hcA hcB hch
    go_enter Tryz.func151, Tryz.ntmps151
    go_wp2_with (first
      | (show wpList _ _ _ ((⟨_, Op.load 44 _, _, _, _, _⟩ : Oper) :: _) _ _; refine Mem.go_loadAll 44 rfl rfl rfl 0 M1.out rfl uCpu (by rw [HZ.out]; exact sCpu) ?_)
      | (show wpList _ _ _ ((⟨_, Op.store 44 _ _, _, _, _, _⟩ : Oper) :: _) _ _; refine Mem.go_storeAll 44 rfl rfl rfl rfl 1 M1.out rfl (by rw [HZ.out]; exact sCpu) (by rw [HZ.out]; rfl) H1.out ?_; intro w2 M2'; have M2 := Lib.hid M2'; clear M2'))
    refine bodyPost_ret (Bx.res_c Tryz.results151 rfl (load_w HZ.out (M2.out.blk 1 rfl))) rfl ?_
    exact ⟨_, by rw [← HCB.out, HC2.out], HOK.out, M2.out.held⟩
end Ma
end Go.Proofs.YtdacgdokbfcgdaaGreat

namespace Go.Proofs.YtdacgdokbfcgdaaGreat
open Go.RowKit Go.BigFrame Go.Sort Go.Lib
namespace Ma
def uC (z : Int) : List Value := [.int .u32 z]
theorem uC_len (x : Int) : (uC x).length = 1 := rfl
theorem uC_one (x : Int) : ∀ u ∈ uC x, u.oneCell' = true := by intro u hu; simp [uC] at hu; subst hu; rfl
theorem info_u32 : (Tryz.prog.info? 40).map (fun i => (i.zero, i.size, i.bytes)) = some (some (.int .u32 0), 1, 4) := by kernel_rfl
/-- Words of a memory. -/
def Wds (L : List Int) : Prop := ∀ z ∈ L, Wd z
theorem Wds.set {L : List Int} (h : Wds L) {j : Nat} {v : Int} (hv : Wd v) : Wds (L.set j v) := fun n hn => by
  rcases List.mem_or_eq_of_mem_set hn with hn | rfl
  · exact h n hn
  · exact hv
theorem pages_any (A : Option Addr) (cap : Nat) (w : World) : Calls Tryz.prog 78 #[.slice A 256 cap] w fun e w' => e = .returned (.int .i64 8) ∧ w = w' := by
  go_enter Tryz.func78, Tryz.ntmps78
  go_wp2
  go_ret
  exact ⟨rfl, rfl⟩
/-- An access within the memory. -/
def inM (a size : Nat) : Bool := decide (a % size = 0) && decide (a < 1024)
theorem within4 (A : Option Addr) (cap a : Nat) (ha : a < 4294967296) (w : World) : Calls Tryz.prog 115 #[.slice A 256 cap, .int .u32 (a : Int), .int .i64 4] w fun e w' => e = .returned (.bool (inM a 4)) ∧ w = w' := by
  have HP := Lib.hid fun w => pages_any A cap w
  have z : (a : Int) ≤ 4294967295 := by omega
  have hm : (a : Int).tmod 4 = ((a % 4 : Nat) : Int) := by rw [Int.tmod_eq_emod_of_nonneg (by omega)]; omega
  by_cases h : a % 4 = 0
  · have hv : inM a 4 = decide ((a : Int) < 1024) := by
      unfold inM
      rw [decide_eq_true h, Bool.true_and, decide_eq_decide]
      omega
    rw [hv]
    have z1 : (a : Int).tmod 4 = 0 := by rw [hm]; omega
    clear hm hv h
    go_enter Tryz.func115, Tryz.ntmps115
    go_wp2_with fail
    refine (HP.out _).mono ?_
    rintro e w3 ⟨rfl, rfl⟩
    go_wp2
    go_ret
    exact ⟨rfl, rfl⟩
  · have hv : inM a 4 = false := by unfold inM; rw [decide_eq_false h]; rfl
    rw [hv]
    obtain ⟨m, hm2⟩ : ∃ m, a % 4 = m := ⟨_, rfl⟩
    rw [hm2] at hm
    have z1 : ((m : Int) == 0) = false := by rw [beq_eq_false_iff_ne]; omega
    have z2 : (m : Int) ≤ 3 := by omega
    clear hv h hm2
    go_enter Tryz.func115, Tryz.ntmps115
    go_wp2_with fail
    try (refine (HP.out _).mono ?_; rintro e w3 ⟨rfl, rfl⟩)
    go_wp2
    go_ret
    exact ⟨rfl, rfl⟩
theorem within1 (A : Option Addr) (cap a : Nat) (ha : a < 4294967296) (w : World) : Calls Tryz.prog 115 #[.slice A 256 cap, .int .u32 (a : Int), .int .i64 1] w fun e w' => e = .returned (.bool (inM a 1)) ∧ w = w' := by
  have HP := Lib.hid fun w => pages_any A cap w
  have z : (a : Int) ≤ 4294967295 := by omega
  have hm : (a : Int).tmod 1 = 0 := by rw [Int.tmod_eq_emod_of_nonneg (by omega)]; omega
  have hv : inM a 1 = decide ((a : Int) < 1024) := by
    unfold inM
    rw [decide_eq_true (by omega), Bool.true_and, decide_eq_decide]
    omega
  rw [hv]
  clear hv
  go_enter Tryz.func115, Tryz.ntmps115
  go_wp2_with fail
  refine (HP.out _).mono ?_
  rintro e w3 ⟨rfl, rfl⟩
  go_wp2
  go_ret
  exact ⟨rfl, rfl⟩
theorem known_any (k : Nat) (hk : 1 ≤ k ∧ k ≤ 3) (w : World) : Calls Tryz.prog 145 #[.int .i64 (k : Int)] w fun e w' => e = .returned (.bool true) ∧ w = w' := by
  obtain ⟨h1, h2⟩ := hk
  rcases (by omega : k = 1 ∨ k = 2 ∨ k = 3) with rfl | rfl | rfl
  all_goals
    go_enter Tryz.func145, Tryz.ntmps145
    go_wp2
    go_ret
    exact ⟨rfl, rfl⟩
theorem cause_any (k : Nat) (hk : 1 ≤ k ∧ k ≤ 3) (w : World) : Calls Tryz.prog 147 #[.int .i64 (k : Int)] w fun e w' => e = .returned (.int .i64 (if k = 1 then 4 else if k = 3 then 6 else 5)) ∧ w = w' := by
  obtain ⟨h1, h2⟩ := hk
  rcases (by omega : k = 1 ∨ k = 2 ∨ k = 3) with rfl | rfl | rfl
  all_goals
    go_enter Tryz.func147, Tryz.ntmps147
    go_wp2
    go_ret
    exact ⟨rfl, rfl⟩
theorem wordAt {w a : World} {A : Option Addr} {L : List Int} (h : Sl 1 uC w A 256 L) (ha : Held w a) {k : Nat} (hk : k < 256) :
    ∃ b off, A = some ⟨b, off, none⟩ ∧ b < w.heap.size ∧ a.cell? ⟨b, off + k, none⟩ = some (.int .u32 (L.getD k 0)) := by
  obtain ⟨b, off, x, e, hb, hx, hc⟩ := Sl.at_ h ha hk
  have c0 := hc 0 _ rfl
  rw [Nat.mul_one, Nat.add_zero] at c0
  have hx2 : L.getD k 0 = x := by rw [List.getD_eq_getElem?_getD, hx]; rfl
  rw [hx2]
  exact ⟨b, off, e, hb, c0⟩
def LdTo (v : Int) (ok : Bool) (w : World) (e : Ending) (w' : World) : Prop := e = .returned (.tuple #[.int .u32 v, .bool ok]) ∧ w = w'
theorem load4 (A : Option Addr) (cap a : Nat) (L : List Int) (ha : a < 4294967296) (hcap : 256 ≤ cap) (w : World) (h : Sl 1 uC w A 256 L) : Calls Tryz.prog 91 #[.slice A 256 cap, .int .u32 (a : Int), .int .i64 4] w (LdTo (if inM a 4 = true then L.getD (a / 4) 0 else 0) (inM a 4) w) := by
  have HW := Lib.hid fun w => within4 A cap a ha w
  by_cases hin : inM a 4 = true
  · rw [hin, if_pos rfl]
    rw [hin] at HW
    unfold inM at hin
    simp only [Bool.and_eq_true, decide_eq_true_eq] at hin
    obtain ⟨b, off, rfl, hb, c0⟩ := wordAt h (Held.refl w) (k := a / 4) (by omega)
    obtain ⟨k, hk⟩ : ∃ k, a / 4 = k := ⟨_, rfl⟩
    have hd : (a : Int).tdiv 4 = (k : Int) := by rw [Int.tdiv_eq_ediv_of_nonneg (by omega)]; omega
    have z1 : (k : Int) < 256 := by omega
    have z2 : (0 : Int) ≤ k := by omega
    rw [hk] at c0 ⊢
    obtain ⟨x, hx⟩ : ∃ x, L.getD k 0 = x := ⟨_, rfl⟩
    rw [hx] at c0 ⊢
    clear hin hk h hx
    unfold LdTo
    go_enter Tryz.func91, Tryz.ntmps91
    go_wp2_with fail
    refine (HW.out _).mono ?_
    rintro e w3 ⟨rfl, rfl⟩
    go_wp2
    go_ret2
    exact ⟨rfl, rfl⟩
  · have hf : inM a 4 = false := by simpa using hin
    rw [hf]
    rw [hf] at HW
    clear hin hf h
    unfold LdTo
    go_enter Tryz.func91, Tryz.ntmps91
    go_wp2_with fail
    refine (HW.out _).mono ?_
    rintro e w3 ⟨rfl, rfl⟩
    go_wp2
    go_ret2
    exact ⟨rfl, rfl⟩
def LdSome (w : World) (e : Ending) (w' : World) : Prop := ∃ v ok, e = .returned (.tuple #[.int .u32 v, .bool ok]) ∧ Wd v ∧ w = w'
theorem load1 (A : Option Addr) (cap a : Nat) (L : List Int) (ha : a < 4294967296) (hcap : 256 ≤ cap) (w : World) (h : Sl 1 uC w A 256 L) : Calls Tryz.prog 91 #[.slice A 256 cap, .int .u32 (a : Int), .int .i64 1] w (LdSome w) := by
  have HW := Lib.hid fun w => within1 A cap a ha w
  by_cases hin : inM a 1 = true
  · rw [hin] at HW
    unfold inM at hin
    simp only [Bool.and_eq_true, decide_eq_true_eq] at hin
    obtain ⟨b, off, rfl, hb, c0⟩ := wordAt h (Held.refl w) (k := a / 4) (by omega)
    obtain ⟨k, hk⟩ : ∃ k, a / 4 = k := ⟨_, rfl⟩
    have hd : (a : Int).tdiv 4 = (k : Int) := by rw [Int.tdiv_eq_ediv_of_nonneg (by omega)]; omega
    have hm : (a : Int).tmod 4 = ((a % 4 : Nat) : Int) := by rw [Int.tmod_eq_emod_of_nonneg (by omega)]; omega
    obtain ⟨m, hm2⟩ : ∃ m, a % 4 = m := ⟨_, rfl⟩
    rw [hm2] at hm
    have z0 : (m : Int) ≤ 3 := by omega
    have z1 : (k : Int) < 256 := by omega
    have z2 : (0 : Int) ≤ k := by omega
    rw [hk] at c0
    obtain ⟨x, hx⟩ : ∃ x, L.getD k 0 = x := ⟨_, rfl⟩
    rw [hx] at c0
    clear hin hk h hx hm2
    unfold LdSome
    go_enter Tryz.func91, Tryz.ntmps91
    go_wp2_with fail
    refine (HW.out _).mono ?_
    rintro e w3 ⟨rfl, rfl⟩
    go_wp2
    go_ret2
    exact ⟨_, _, rfl, bits_wd _ _ _, rfl⟩
  · have hf : inM a 1 = false := by simpa using hin
    rw [hf] at HW
    clear hin hf h
    unfold LdSome
    go_enter Tryz.func91, Tryz.ntmps91
    go_wp2_with fail
    refine (HW.out _).mono ?_
    rintro e w3 ⟨rfl, rfl⟩
    go_wp2
    go_ret2
    exact ⟨_, _, rfl, ⟨by decide, by decide⟩, rfl⟩
end Ma
end Go.Proofs.YtdacgdokbfcgdaaGreat

namespace Go.Proofs.YtdacgdokbfcgdaaGreat
open Go.RowKit
namespace By
theorem take_snoc (s : ByteArray) (k : Nat) (h : k < s.size) : s.data.toList.take (k + 1) = s.data.toList.take k ++ [s[k]] := by
  rw [List.take_succ_eq_append_getElem (by simpa using h)]; rfl
theorem take_all (s : ByteArray) : s.data.toList.take s.size = s.data.toList := List.take_of_length_le (by simp)
theorem Tryzby_u8 : (Tryz.prog.info? 5).map (fun i => (i.zero, i.size, i.bytes)) = some (some (.int .u8 0), 1, 1) := by kernel_rfl
/-- Bytes as the cells of a slice. -/
def by8 (l : List UInt8) : List Value := l.map fun c => Value.int .u8 c.toNat
theorem by8_append (a b : List UInt8) : by8 (a ++ b) = by8 a ++ by8 b := List.map_append
theorem by8_one (l : List UInt8) : ∀ u ∈ by8 l, u.oneCell' = true := by
  intro u hu; obtain ⟨c, _, rfl⟩ := List.mem_map.1 hu; rfl
theorem by8_at {l : List UInt8} {j : Nat} {u : Value} (h : (by8 l)[j]? = some u) : ∃ h : j < l.length, u = .int .u8 l[j].toNat := by
  unfold by8 at h
  rw [List.getElem?_map] at h
  cases e : l[j]? with
  | none => simp [e] at h
  | some c =>
    obtain ⟨hj, rfl⟩ := List.getElem?_eq_some_iff.1 e
    simp [e] at h
    exact ⟨hj, h.symm⟩
/-- Append to bytes that the call itself made. -/
theorem app_u8 (w : World) {ops : Array Oper} {rest : List Oper} {o : Oper} {a : Act} {Q : Exit → Act → World → Prop} (hgd : o.guard = none) (s x : Operand)
    (ho : o.op = .call { callee := .builtin .append, args := #[s, x], argTypes := #[37, 37] }) (base : Nat) (v : Value) (l news : List UInt8) (ad : Addr) (m c : Nat)
    (hs : a.eval s = v) (hown : w.ownsRow base 5 1 v l.length (by8 l)) (hx : a.eval x = .slice (some ad) m c) (hm : news.length = m)
    (hnews : ∀ j (h : j < news.length), w.cell? (ad.add j) = some (.int .u8 news[j].toNat)) (hb : l.length + m ≤ 140737488355328) (hbase : base ≤ w.heap.size)
    (h : ∀ v' w', w'.ownsRow base 5 1 v' (l ++ news).length (by8 (l ++ news)) → w.grownBy w' v.ownBlock → (v' = .slice none 0 0 ↔ v = .slice none 0 0 ∧ m = 0) → wpList Tryz.prog ops Q rest (a.put o.dst v') w') :
    wpList Tryz.prog ops Q (o :: rest) a w := by
  obtain ⟨i0, hi, hz0, hz1, hz2⟩ := info_parts Tryzby_u8
  refine wpList_append_own w hgd s x 37 ho base 5 i0 (.int .u8 0) 1 1 Tryz.underlying37 hi hz0 hz1 hz2 rfl (by decide) v l.length (by8 l) hs hown ad m c (by8 news) hx (by simp [by8, hm]) ?_ (by8_one news) (by unfold maxLen; omega) (by omega) hbase ?_
  · intro j u hj
    obtain ⟨hk, rfl⟩ := by8_at hj
    exact hnews j hk
  · intro v' w' h1 h2 h3
    refine h v' w' ?_ h2 h3
    rw [by8_append, List.length_append, hm]; exact h1
/-- A row of one byte that was just made. -/
theorem one_cell (w : World) (n : Int) (c : UInt8) (h : n = (c.toNat : Int)) (t : TypeId) : ∀ j (h : j < [c].length), (w.alloc (.cells #[.int .u8 n] t)).cell? ((⟨w.heap.size, 0, none⟩ : Addr).add j) = some (.int .u8 [c][j].toNat) := by
  intro j hj
  simp at hj
  subst hj h
  simp [Addr.add]

theorem by8_get (l : List UInt8) (j : Nat) (hj : j < l.length) : (by8 l)[j]? = some (.int .u8 l[j].toNat) := by
  unfold by8; rw [List.getElem?_map, List.getElem?_eq_getElem hj]; rfl
theorem addr_add (g j : Nat) : (⟨g, 0, none⟩ : Addr).add j = ⟨g, j, none⟩ := by
  unfold Addr.add; split
  · rename_i h; subst h; rfl
  · simp
/-- Bytes that the call owns, as a string. -/
theorem conv_own {w : World} {base : Nat} {v : Value} {l : List UInt8} (h : w.ownsRow base 5 1 v l.length (by8 l)) :
    (convert 37 9 v).run Tryz.prog w = .ok (.string ⟨l.toArray⟩) w := by
  have h' := h
  obtain ⟨_, h⟩ := h
  rcases h with ⟨rfl, h0⟩ | ⟨g, cap, cur, rfl, _⟩
  · have hl : l = [] := List.eq_nil_of_length_eq_zero h0
    subst hl
    have := run_convert_bytes_back (P := Tryz.prog) w 37 9 5 default 0 [] Tryz.underlying37 Tryz.underlying5 Tryz.underlying9 (fun j hj => absurd hj (by simp))
    rw [run_convert_bytes_string w _ _ _ none 0 0 Tryz.underlying37 Tryz.underlying5 Tryz.underlying9]
    rfl
  · exact run_convert_bytes_back (P := Tryz.prog) w 37 9 5 _ cap l Tryz.underlying37 Tryz.underlying5 Tryz.underlying9 (fun j hj => by
      have := h'.cellAt j (by omega)
      rw [by8_get l j hj] at this
      rw [addr_add]; exact this)
theorem below_app {W w w1 : World} {b : Nat} {v : Value} {e : TypeId} {size n : Nat} {xs : List Value} {o : Obj} (hb : Below b W w) (hbs : b ≤ w.heap.size) (hown : w.ownsRow b e size v n xs) (hg : (w.alloc o).grownBy w1 v.ownBlock) : Below b W w1 := by
  refine (hb.alloc hbs o).grown hg (by simp; omega) ?_
  intro k hk
  obtain ⟨_, h⟩ := hown
  rcases h with ⟨rfl, _⟩ | ⟨g, cap, cur, rfl, hg', _⟩
  · simp [Value.ownBlock] at hk
  · simp [Value.ownBlock] at hk; omega

/-- '[]byte(s)': a new block. -/
theorem bytes_of (s : ByteArray) (w : World) : ∃ (C : Array Value) (cap : Nat), s.size ≤ C.size ∧ (∀ i (h : i < s.size), C[i]? = some (.int .u8 s[i].toNat)) ∧
    (convert 9 37 (.string s)).run Tryz.prog w = .ok (.slice (some ⟨w.heap.size, 0, none⟩) s.size cap) (w.drew.alloc (.cells C 5 (C.size, C.size + 1))) := by
  refine ⟨bytesRow s (grownCap w s.size 0 5), grownCap w s.size 0 5, ?_, fun i h => bytesRow_at s _ i h, run_bytes_of_string (P := Tryz.prog) w 9 37 5 s Tryz.underlying9 Tryz.underlying37 Tryz.underlying5⟩
  rcases Nat.lt_or_ge (bytesRow s (grownCap w s.size 0 5)).size s.size with h | h
  · have := bytesRow_at s (grownCap w s.size 0 5) _ h
    simp at this
  · exact h
theorem bytes_back (w : World) (a : Addr) (cap : Nat) (l : List UInt8) (hc : ∀ j (hj : j < l.length), w.cell? (a.add j) = some (.int .u8 (l[j].toNat : Int))) :
    (convert 37 9 (.slice (some a) l.length cap)).run Tryz.prog w = .ok (.string ⟨l.toArray⟩) w :=
  run_convert_bytes_back w _ _ 5 a cap l Tryz.underlying37 Tryz.underlying5 Tryz.underlying9 hc
theorem drop_at (s : ByteArray) (k : Nat) (h : k < s.size) : s.data.toList.drop k = s[k] :: s.data.toList.drop (k + 1) := by
  rw [List.drop_eq_getElem_cons (by simpa using h)]; rfl
theorem strCells_by (s : ByteArray) : Lib.strCells s = by8 s.data.toList := by
  unfold Lib.strCells by8
  rfl
/-- The new value lies in the old one's block or in a new one. -/
def Moved (w : World) (v v' : Value) : Prop := ∀ g, v'.ownBlock = some g → v.ownBlock = some g ∨ w.heap.size ≤ g
theorem Moved.refl (w : World) (v : Value) : Moved w v v := fun g h => .inl h
theorem Moved.trans {w w1 : World} {a b c : Value} (h : Moved w a b) (k : Moved w1 b c) (hs : w.heap.size ≤ w1.heap.size) : Moved w a c := fun g hg => by
  rcases k g hg with h1 | h1
  · exact h g h1
  · exact .inr (Nat.le_trans hs h1)
theorem Moved.mono {w w1 : World} {a b : Value} (h : Moved w1 a b) (hs : w.heap.size ≤ w1.heap.size) : Moved w a b := fun g hg => (h g hg).imp id (Nat.le_trans hs)
theorem run_str {P : Program} (w : World) (base : Nat) (t u ty e : TypeId) (i : TypeInfo) (ht : P.underlying t = some (.slice e)) (hu : P.underlying u = some .string) (hi : P.info? e = some i) (hz : i.zero = some (.int .u8 0))
    (hsize : i.size = 1) (hby : i.bytes = 1) (v : Value) (n : Nat) (xs : List Value) (hown : w.ownsRow base e 1 v n xs) (s : ByteArray)
    (h63 : n + s.size ≤ maxLen) (hbytes : n + s.size ≤ 140737488355328) (hbase : base ≤ w.heap.size) :
    ∃ v' w', (Builtin.append_ #[t, u] ty #[v, .string s]).run P w = .ok v' w' ∧ w'.ownsRow base e 1 v' (n + s.size) (xs ++ Lib.strCells s) ∧ w.grownBy w' v.ownBlock ∧ Moved w v v' := by
  have hsm : ((n + s.size : Nat) : Int) ≤ 9223372036854775807 := by unfold maxLen at h63; omega
  rcases hown.2 with ⟨rfl, rfl⟩ | ⟨g, cap, cur, rfl, hbg, hg, hnc, hcm, hcs, htake⟩
  · obtain ⟨v', w', hr, h2, h3, _⟩ := Lib.run_append_own_string (P := P) w w.heap.size t u ty e i ht hu hi hz hsize hby (.slice none 0 0) 0 xs ⟨hown.1, .inl ⟨rfl, rfl⟩⟩ s h63 hbytes (Nat.le_refl _)
    refine ⟨v', w', hr, ⟨h2.1, h2.2.imp id fun ⟨g, cap, cur, a1, a2, a3⟩ => ⟨g, cap, cur, a1, Nat.le_trans hbase a2, a3⟩⟩, h3, fun g hg => .inr ?_⟩
    rcases h2.2 with ⟨rfl, _⟩ | ⟨g', cap, cur, rfl, h4, _⟩
    · cases hg
    · injection hg with hg
      subst hg; exact h4
  · obtain ⟨v', w', hr, h2, h3, _⟩ := Lib.run_append_own_string (P := P) w base t u ty e i ht hu hi hz hsize hby _ n xs hown s h63 hbytes hbase
    refine ⟨v', w', hr, h2, h3, ?_⟩
    by_cases hroom : n + s.size ≤ cap
    · have h5 := Lib.run_append_room_string (P := P) w t u ty e i ht hu hi hsize g n cap cur hg s hroom (by omega)
      rw [hr] at h5
      injection h5 with h5
      subst h5
      exact fun g hg => .inl hg
    · have h5 := Lib.run_append_grow_string (P := P) w t u ty e i (.int .u8 0) ht hu hi hz ⟨g, 0, none⟩ n cap xs (by rw [hsize]; exact hown.1) (hown.cells (g := g) rfl) s (by omega) hsm (by rw [hby]; exact growslice_fits (by omega) (by omega))
      rw [hr] at h5
      injection h5 with h5
      subst h5
      intro g hg
      injection hg with hg
      subst hg; exact .inr (Nat.le_refl _)
/-- Append of a string, .. and where the result lies. -/
theorem app_strM (w : World) {ops : Array Oper} {rest : List Oper} {o : Oper} {a : Act} {Q : Exit → Act → World → Prop} (hgd : o.guard = none) (s x : Operand)
    (ho : o.op = .call { callee := .builtin .append, args := #[s, x], argTypes := #[37, 9] }) (base : Nat) (v : Value) (l : List UInt8) (t : ByteArray)
    (hs : a.eval s = v) (hown : w.ownsRow base 5 1 v l.length (by8 l)) (hx : a.eval x = .string t) (hb : l.length + t.size ≤ 140737488355328) (hbase : base ≤ w.heap.size)
    (h : ∀ v' w', w'.ownsRow base 5 1 v' (l ++ t.data.toList).length (by8 (l ++ t.data.toList)) → w.grownBy w' v.ownBlock → Moved w v v' → wpList Tryz.prog ops Q rest (a.put o.dst v') w') :
    wpList Tryz.prog ops Q (o :: rest) a w := by
  obtain ⟨i0, hi, hz0, hz1, hz2⟩ := info_parts Tryzby_u8
  refine wpList_plain hgd fun K hK => ?_
  obtain ⟨v', w', hr, h2, h3, h4⟩ := run_str (P := Tryz.prog) w base 37 9 o.type 5 i0 Tryz.underlying37 Tryz.underlying9 hi hz0 hz1 hz2 v l.length (by8 l) hown t (by unfold maxLen; omega) hb hbase
  unfold Oper.wp execOp
  simp only [ho, resolve, invoke, builtin, Sem.run_bind, Sem.run_pure, Result.andThen_ok, List.map_toArray, List.map_cons, List.map_nil, hs, hx, hr]
  refine hK _ _ (h v' w' ?_ h3 h4)
  rw [by8_append, List.length_append, ← strCells_by]
  simpa using h2
/-- Append of bytes, .. and where the result lies. -/
theorem app_u8M (w : World) {ops : Array Oper} {rest : List Oper} {o : Oper} {a : Act} {Q : Exit → Act → World → Prop} (hgd : o.guard = none) (s x : Operand)
    (ho : o.op = .call { callee := .builtin .append, args := #[s, x], argTypes := #[37, 37] }) (base : Nat) (v : Value) (l news : List UInt8) (ad : Addr) (m c : Nat)
    (hs : a.eval s = v) (hown : w.ownsRow base 5 1 v l.length (by8 l)) (hx : a.eval x = .slice (some ad) m c) (hm : news.length = m)
    (hnews : ∀ j (h : j < news.length), w.cell? (ad.add j) = some (.int .u8 news[j].toNat)) (hb : l.length + m ≤ 140737488355328) (hbase : base ≤ w.heap.size)
    (h : ∀ v' w', w'.ownsRow base 5 1 v' (l ++ news).length (by8 (l ++ news)) → w.grownBy w' v.ownBlock → Moved w v v' → wpList Tryz.prog ops Q rest (a.put o.dst v') w') :
    wpList Tryz.prog ops Q (o :: rest) a w := by
  obtain ⟨i0, hi, hz0, hz1, hz2⟩ := info_parts Tryzby_u8
  refine wpList_append_own_at w hgd s x 37 ho base 5 i0 (.int .u8 0) 1 1 Tryz.underlying37 hi hz0 hz1 hz2 rfl (by decide) v l.length (by8 l) hs hown ad m c (by8 news) hx (by simp [by8, hm]) ?_ (by8_one news) (by unfold maxLen; omega) (by omega) hbase ?_
  · intro j u hj
    obtain ⟨hk, rfl⟩ := by8_at hj
    exact hnews j hk
  · intro v' w' h1 h2 h3 h4
    refine h v' w' ?_ h2 (fun g hg => ?_)
    · rw [by8_append, List.length_append, hm]; exact h1
    · rcases h4 with h4 | h4
      · exact .inl (h4 ▸ hg)
      · rw [h4] at hg; injection hg with hg; exact .inr (by omega)
/-- A byte of a string, its index spelled in whatever way. -/
theorem idx (s : ByteArray) (n : Int) (k : Nat) (hn : n = k) (hk : k < s.size) : ∀ w, (Instr.index 9 (.string s) (.int .i64 n)).run Tryz.prog w = .ok (.int .u8 (s[k].toNat : Int)) w := by
  intro w
  subst hn
  rw [run_index_string w _ s .i64 k Tryz.underlying9]
  simp [hk]
end By
end Go.Proofs.YtdacgdokbfcgdaaGreat

namespace Go.Proofs.YtdacgdokbfcgdaaGreat
open Go.RowKit Go.BigFrame Go.Sort Go.Lib
namespace Ma
/-- A memory of its own, as a piece. -/
abbrev memR (B g cap : Nat) (L : List Int) : Ck := .row 40 1 uC B (.slice (some ⟨g, 0, none⟩) 256 cap) L
structure MemOK (L : List Int) : Prop where
  len : L.length = 256
  bd : Wds L
theorem MemOK.set {L : List Int} (h : MemOK L) {j : Nat} {v : Int} (hv : Wd v) : MemOK (L.set j v) := ⟨by rw [List.length_set]; exact h.len, h.bd.set hv⟩
def MemTo (W : World) (g cap : Nat) (F : List Ck) (e : Ending) (w' : World) : Prop := e = .returned (.tuple #[]) ∧ ∃ L', MemOK L' ∧ Mem W w' (memR W.heap.size g cap L' :: F)
theorem memAt {W w : World} {g cap : Nat} {L : List Int} {F : List Ck} (h : Mem W w (memR W.heap.size g cap L :: F)) (hL : MemOK L) {k : Nat} (hk : k < 256) :
    g < w.heap.size ∧ w.cell? ⟨g, k, none⟩ = some (.int .u32 (L.getD k 0)) ∧ w.frozen? ⟨g, k, none⟩ = false := by
  obtain ⟨g', x, he, _, hlt, hx, hc⟩ := h.slot 0 rfl uC_len (by decide) (k := k) (by rw [hL.len]; exact hk)
  injection he with he
  injection he with he _
  subst he
  obtain ⟨h1, h2⟩ := hc 0 (by decide)
  rw [Nat.mul_one, Nat.add_zero] at h1 h2
  have hx2 : L.getD k 0 = x := by rw [List.getD_eq_getElem?_getD, hx]; rfl
  rw [hx2]
  exact ⟨hlt, h2 _ rfl, h1⟩
theorem memPut {W w : World} {g cap : Nat} {L : List Int} {F : List Ck} (h : Mem W w (memR W.heap.size g cap L :: F)) (hL : MemOK L) {k : Nat} (hk : k < 256) (v : Int) :
    Mem W (w.setCell ⟨g, k, none⟩ (.int .u32 v)) (memR W.heap.size g cap (L.set k v) :: F) := by
  have hy : L[k]? = some (L[k]'(by rw [hL.len]; exact hk)) := List.getElem?_eq_getElem _
  have := h.putAt 0 rfl uC_len (k := k) hy (j := 0) (by decide) (.int .u32 v) v rfl
  rw [Nat.mul_one, Nat.add_zero] at this
  exact this
theorem memSl {W w : World} {g cap : Nat} {L : List Int} {F : List Ck} (h : Mem W w (memR W.heap.size g cap L :: F)) : Sl 1 uC w (some ⟨g, 0, none⟩) 256 L := (Own.reads uC_len (h.row 0 rfl)).1
theorem memCap {W w : World} {g cap : Nat} {L : List Int} {F : List Ck} (h : Mem W w (memR W.heap.size g cap L :: F)) : 256 ≤ cap := (Own.reads uC_len (h.row 0 rfl)).2.2
set_option maxHeartbeats 2000000 in
theorem put4 (W : World) (g cap a : Nat) (L : List Int) (v : Int) (F : List Ck) (ha : a < 1024) (hL : MemOK L) (hv : Wd v) (w : World) (hM : Mem W w (memR W.heap.size g cap L :: F)) :
    Calls Tryz.prog 137 #[.slice (some ⟨g, 0, none⟩) 256 cap, .int .u32 (a : Int), .int .i64 4, .int .u32 v] w (MemTo W g cap F) := by
  obtain ⟨k, hk⟩ : ∃ k, a / 4 = k := ⟨_, rfl⟩
  have hk2 : k < 256 := by omega
  have hd : (a : Int).tdiv 4 = (k : Int) := by rw [Int.tdiv_eq_ediv_of_nonneg (by omega)]; omega
  have z1 : (k : Int) < 256 := by omega
  have z2 : (0 : Int) ≤ k := by omega
  obtain ⟨hg, c0, f0⟩ := memAt hM hL hk2
  have MZ := Lib.hid (memPut hM hL hk2 v)
  have HOK := Lib.hid (hL.set (j := k) hv)
  clear hM hL hv hk hk2
  go_enter Tryz.func137, Tryz.ntmps137
  go_wp2
  go_end0
  exact ⟨rfl, _, HOK.out, MZ.out⟩
set_option maxHeartbeats 2000000 in
theorem put1 (W : World) (g cap a : Nat) (L : List Int) (v : Int) (F : List Ck) (ha : a < 1024) (hL : MemOK L) (hv : Wd v) (w : World) (hM : Mem W w (memR W.heap.size g cap L :: F)) :
    Calls Tryz.prog 137 #[.slice (some ⟨g, 0, none⟩) 256 cap, .int .u32 (a : Int), .int .i64 1, .int .u32 v] w (MemTo W g cap F) := by
  obtain ⟨k, hk⟩ : ∃ k, a / 4 = k := ⟨_, rfl⟩
  have hk2 : k < 256 := by omega
  have hd : (a : Int).tdiv 4 = (k : Int) := by rw [Int.tdiv_eq_ediv_of_nonneg (by omega)]; omega
  have hm : (a : Int).tmod 4 = ((a % 4 : Nat) : Int) := by rw [Int.tmod_eq_emod_of_nonneg (by omega)]; omega
  obtain ⟨m, hm2⟩ : ∃ m, a % 4 = m := ⟨_, rfl⟩
  rw [hm2] at hm
  have z0 : (m : Int) ≤ 3 := by omega
  have z1 : (k : Int) < 256 := by omega
  have z2 : (0 : Int) ≤ k := by omega
  obtain ⟨hg, c0, f0⟩ := memAt hM hL hk2
  obtain ⟨x, hx⟩ : ∃ x, L.getD k 0 = x := ⟨_, rfl⟩
  rw [hx] at c0
  have MZ := Lib.hid fun v => memPut hM hL hk2 v
  have HOK := Lib.hid fun (v : Int) (hv : Wd v) => hL.set (j := k) hv
  clear hM hL hv hk hk2 hx hm2
  go_enter Tryz.func137, Tryz.ntmps137
  go_wp2
  go_end0
  exact ⟨rfl, _, HOK.out _ (bits_wd _ _ _), MZ.out _⟩
set_option maxHeartbeats 2000000 in
theorem mark_any (W : World) (g cap a k : Nat) (L : List Int) (F : List Ck) (ha : a < 4294967296) (hk : 1 ≤ k ∧ k ≤ 3) (hL : MemOK L) (w : World) (hM : Mem W w (memR W.heap.size g cap L :: F)) :
    Calls Tryz.prog 149 #[.slice (some ⟨g, 0, none⟩) 256 cap, .int .u32 (a : Int), .int .i64 (k : Int)] w (MemTo W g cap F) := by
  have HW := Lib.hid fun w => within4 (some ⟨g, 0, none⟩) cap a ha w
  by_cases hin : inM a 4 = true
  · rw [hin] at HW
    unfold inM at hin
    simp only [Bool.and_eq_true, decide_eq_true_eq] at hin
    obtain ⟨q, hq⟩ : ∃ q, a / 4 = q := ⟨_, rfl⟩
    have hq2 : q < 256 := by omega
    have hd : (a : Int).tdiv 4 = (q : Int) := by rw [Int.tdiv_eq_ediv_of_nonneg (by omega)]; omega
    have z1 : (q : Int) < 256 := by omega
    have z2 : (0 : Int) ≤ q := by omega
    obtain ⟨hg, c0, f0⟩ := memAt hM hL hq2
    have hL1 := hL.set (j := q) (bits_wd .or (L.getD q 0) 8)
    have M1 := memPut hM hL hq2 (bits .or .u32 (L.getD q 0) 8)
    have M2 := memPut M1 hL1 hq2 (bits .or .u32 (bits .or .u32 (L.getD q 0) 8) 16)
    have HOK1 := Lib.hid hL1
    have HOK2 := Lib.hid (hL1.set (j := q) (bits_wd .or (bits .or .u32 (L.getD q 0) 8) 16))
    have HM1 := Lib.hid M1
    have HM2 := Lib.hid M2
    obtain ⟨x, hx⟩ : ∃ x, L.getD q 0 = x := ⟨_, rfl⟩
    rw [hx] at c0 HM1 HM2 HOK1 HOK2
    clear M1 M2 hM hL hL1 hq hq2 hx hin
    rcases (by omega : k ≠ 3 ∨ k = 3) with h3 | rfl
    · have z3 : ((k : Int) == 3) = false := by rw [beq_eq_false_iff_ne]; omega
      clear hk h3
      go_enter Tryz.func149, Tryz.ntmps149
      go_wp2_with fail
      refine (HW.out _).mono ?_
      rintro e w3 ⟨rfl, rfl⟩
      go_wp2
      go_end0
      exact ⟨rfl, _, HOK1.out, HM1.out⟩
    · go_enter Tryz.func149, Tryz.ntmps149
      go_wp2_with fail
      refine (HW.out _).mono ?_
      rintro e w3 ⟨rfl, rfl⟩
      go_wp2
      go_end0
      exact ⟨rfl, _, HOK2.out, HM2.out⟩
  · have hf : inM a 4 = false := by simpa using hin
    rw [hf] at HW
    have HOK := Lib.hid hL
    have MZ := Lib.hid hM
    clear hin hf hL hM
    go_enter Tryz.func149, Tryz.ntmps149
    go_wp2_with fail
    refine (HW.out _).mono ?_
    rintro e w3 ⟨rfl, rfl⟩
    go_wp2
    go_end0
    exact ⟨rfl, _, HOK.out, MZ.out⟩
set_option maxHeartbeats 2000000 in
theorem fill_any (W : World) (g cap f : Nat) (L : List Int) (s : ByteArray) (F : List Ck) (hf : f < 8) (hL : MemOK L) (w : World) (hM : Mem W w (memR W.heap.size g cap L :: F)) :
    Calls Tryz.prog 112 #[.slice (some ⟨g, 0, none⟩) 256 cap, .int .i64 (f : Int), .string s] w (MemTo W g cap F) := by
  have HOK0 := Lib.hid hL
  have M0 := Lib.hid hM
  have zf : (f : Int) ≤ 7 := by omega
  clear hL hM
  go_enter Tryz.func112, Tryz.ntmps112
  go_wp2
  go_loopw [6] (fun i wr => ∃ (q : Nat) (L1 : List Int), i = .int .i64 (q : Int) ∧ q ≤ s.size ∧ q ≤ 128 ∧ MemOK L1 ∧ Mem W wr (memR W.heap.size g cap L1 :: F)) (fun i _ => 128 - (RowKit.intOf i).toNat)
  case atStart => exact ⟨0, L, rfl, Nat.zero_le _, Nat.zero_le _, HOK0.out, M0.out⟩
  case round =>
    clear M0 HOK0
    obtain ⟨q, L1, rfl, hq, hq8, hok, hM⟩ := hrel
    have M := Lib.hid hM
    have HOK := Lib.hid hok
    clear hM hok
    by_cases hlt : q < s.size
    · have y1 : (q : Int) < s.size := by omega
      by_cases h128 : q < 128
      · have y2 : (q : Int) < 128 := by omega
        have y3 : (0 : Int) ≤ q := by omega
        have ix := By.idx s (q : Int) q rfl hlt
        obtain ⟨c, hcs⟩ : ∃ c, s[q] = c := ⟨_, rfl⟩
        rw [hcs] at ix
        have hc := c.toNat_lt
        have zc : (c.toNat : Int) ≤ 255 := by have : c.toNat < 256 := hc
                                              omega
        obtain ⟨a, ha⟩ : ∃ a, f * 128 + q = a := ⟨_, rfl⟩
        have ya : (f : Int) * 128 + (q : Int) = (a : Int) := by omega
        have ha2 : a < 1024 := by omega
        have za : (a : Int) < 1024 := by omega
        have HPU := Lib.hid fun w hM => put1 W g cap a L1 (c.toNat : Int) F ha2 HOK.out ⟨by omega, by omega⟩ w hM
        clear hcs hc ha ha2
        go_wp2_with fail
        refine (HPU.out _ M.out).mono ?_
        rintro e w3 ⟨rfl, L2, hL2, M2⟩
        have HL2 := Lib.hid hL2
        have HM2 := Lib.hid M2
        clear hL2 M2 HPU M
        go_wp2
        go_roundw
        case rel => exact ⟨q + 1, L2, by go_num, by omega, by omega, HL2.out, HM2.out⟩
        case measure => (simp [RowKit.intOf]) <;> omega
      · have y2 : ¬ (q : Int) < 128 := by omega
        go_wp2
        go_end0
        exact ⟨rfl, _, HOK.out, M.out⟩
    · have y1 : ¬ (q : Int) < s.size := by omega
      go_wp2
      go_end0
      exact ⟨rfl, _, HOK.out, M.out⟩
end Ma
end Go.Proofs.YtdacgdokbfcgdaaGreat
