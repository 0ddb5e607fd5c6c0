/-
  Contracts of the reference's machine: loads and stores.
  Plain laws, no program in sight: the assembler.
  Contracts of the reference's assembler: letters, digits, names of registers.
  Contracts of the reference's assembler: names of registers, names, numbers.
  Contracts of the reference's assembler: names, numbers.
-/
import Derived.Test.YtdacgdokbfcgdaaGreatW5
import Derived.Test.YtdacgdokbfcgdaaGreatW3
import Derived.RowKit
import Derived.Test.YtdacgdokbfcgdaaGreatW2
import Derived.Test.YtdacgdokbfcgdaaGreatW1
import Derived.Lib.Hide
import Derived.BigQuiet
import Derived.Deep.RegionHeld3
import Derived.Deep.RegionLaw
import Derived.Lib.QuietBelow
set_option linter.unusedVariables false
set_option linter.unusedSimpArgs false
set_option maxRecDepth 100000
namespace Go.Proofs.YtdacgdokbfcgdaaGreat
open Go.RowKit Go.BigFrame Go.Sort Go.Lib
namespace Ma
def XferTo (W : World) (g cap : Nat) (F : List Ck) (e : Ending) (w' : World) : Prop := ∃ (C' L' : List Int), e = .returned (.agg (wA C')) ∧ CpuOK C' ∧ MemOK L' ∧ Mem W w' (memR W.heap.size g cap L' :: F)

theorem Wds.getD {L : List Int} (h : Wds L) (j : Nat) : Wd (L.getD j 0) := by
  by_cases hj : j < L.length
  · rw [show L.getD j 0 = L[j] by simp [hj]]; exact h _ (List.getElem_mem _)
  · rw [show L.getD j 0 = 0 by simp [hj]]; exact ⟨by decide, by decide⟩
set_option maxHeartbeats 6000000 in
theorem xfer_lw (W : World) (g cap a b c : Nat) (i : Int) (ha : a ≤ 15) (hb : b ≤ 15) (C L : List Int) (F : List Ck) (hC : CpuOK C) (hL : MemOK L) (w : World) (hM : Mem W w (memR W.heap.size g cap L :: F)) :
    Calls Tryz.prog 120 #[.agg (wA C), .slice (some ⟨g, 0, none⟩) 256 cap, inV 32 a b c i] w (XferTo W g cap F) := by
  have cb := wA_at (L := C) (j := b) (by rw [hC.len]; omega)
  obtain ⟨x, hxe⟩ : ∃ x, C.getD b 0 = x := ⟨_, rfl⟩
  rw [hxe] at cb
  have z1 : (b : Int) < 16 := by omega
  have z2 : (0 : Int) ≤ b := by omega
  have z3 : (a : Int) < 16 := by omega
  have z4' : (0 : Int) ≤ a := by omega
  obtain ⟨va, hva, hva2⟩ := wd_nat (mod_wd (x + i))
  have zva : (va : Int) ≤ 4294967295 := by omega
  have hcap := memCap hM
  have HR := Lib.hid fun (F' : List Ck) (w' : World) (h : Mem W w' (memR W.heap.size g cap L :: F')) => reach4_2 W g cap va C L F' hva2 hC hL w' h
  unfold RchTo at HR
  have HTR := Lib.hid fun ca hca w => trap_any C ca (va : Int) hC hca w
  unfold CpuTo at HTR
  have HTO := Lib.hid fun ca (h : 0 ≤ ca ∧ ca ≤ 100) => trapL_ok hC (cause := ca) (bad := (va : Int)) ⟨h.1, by omega⟩ ⟨by omega, by omega⟩
  have HST := Lib.hid fun v hv w => (show Calls Tryz.prog 95 _ w (fun e w' => e = .returned (.agg (wA (setR C a v))) ∧ Held w w' ∧ CpuOK (setR C a v)) from (set_any C a v hC ha w).mono fun e w' h => ⟨h.1, h.2, setR_ok hC a hv⟩)
  have HLD := Lib.hid fun (ad : Nat) (L' : List Int) (h1 : ad < 1024) (hL' : MemOK L') (w' : World) (h : Sl 1 uC w' (some ⟨g, 0, none⟩) 256 L') => (show Calls Tryz.prog 91 #[.slice (some ⟨g, 0, none⟩) 256 cap, .int .u32 (ad : Int), .int .i64 4] w' (LdSome w') from (load4 (some ⟨g, 0, none⟩) cap ad L' (by omega) hcap w' h).mono fun e w'' hh => ⟨_, _, hh.1, (by split <;> first | exact Wds.getD hL'.bd _ | exact ⟨by decide, by decide⟩), hh.2⟩)
  unfold LdSome at HLD
  have HOKC := Lib.hid hC
  have HZ : Is (wA C).size 25 := ⟨by rw [wA_size]; exact hC.len⟩
  have M0 := Lib.hid (((hM.allocF (b := w.heap.size) rfl (wA C) 44).allocF (b := w.heap.size + 1) (by simp) #[.int .i64 32, .int .i64 (a : Int), .int .i64 (b : Int), .int .i64 (c : Int), .int .i32 i] 123).allocF (b := w.heap.size + 1 + 1) (by simp) z25 44)
  clear hM hC hL ha hb hxe
  have HI := Lib.hid fun (w' : World) (h : w'.heap[w.heap.size + 1]? = some (.cells #[.int .i64 32, .int .i64 (a : Int), .int .i64 (b : Int), .int .i64 (c : Int), .int .i32 i] 123 (0, 0))) => (⟨Bx.cell h 2 rfl, Bx.cell h 4 rfl⟩ : _ ∧ _)
  obtain ⟨cA, hcA⟩ : ∃ cA, wA C = cA := ⟨_, rfl⟩
  have hcA2 : Is cA (wA C) := ⟨hcA.symm⟩
  rw [hcA] at cb HZ M0 HR HTR HST ⊢
  clear hcA
  have HC := Lib.hid fun (w' : World) (h : w'.heap[w.heap.size]? = some (.cells cA 44 (0, 0))) => Bx.cell h b cb
  unfold XferTo
  go_enter Tryz.func120, Tryz.ntmps120
  go_upto_region 1 with fail
  refine Tl.start 10 (fun w' => w'.cell? ⟨w.heap.size, b, none⟩ = some (.int .u32 x) ∧ w'.cell? ⟨w.heap.size + 1, 2, none⟩ = some (.int .i64 (b : Int)) ∧ w'.cell? ⟨w.heap.size + 1, 4, none⟩ = some (.int .i32 i)) (by kernel_rfl) (⟨HC.out _ (M0.out.drew.blk 2 rfl), HI.out _ (M0.out.drew.blk 1 rfl)⟩) (fun hHeld => ?_)
  refine Tl.tf 0 (⟨some 14, .fieldAddr 123 (.tmp 5) 2, 0, "cpu.go:384", #[], none⟩ : Oper) ?v1 rfl ?hy1 (by assumption) ?_
  case hy1 => (intro w; go_simp; all_goals (with_reducible rfl))
  try simp only [Act.put, Tl.p2, Tl.p3, Tl.p4]
  refine Tl.tk 1 (⟨some 15, .load 3 (.tmp 14), 3, "cpu.go:384", #[⟨0, .data⟩], none⟩ : Oper) ?v2 rfl ?hy2 (by assumption) ?_
  case hy2 => (intro w hSw; (try dsimp only at hSw); go_simp; all_goals (with_reducible rfl))
  try simp only [Act.put, Tl.p2, Tl.p3, Tl.p4]
  refine Tl.tf 2 (⟨some 16, .fieldAddr 44 (.tmp 3) 0, 0, "cpu.go:384", #[], none⟩ : Oper) ?v3 rfl ?hy3 (by assumption) ?_
  case hy3 => (intro w; go_simp; all_goals (with_reducible rfl))
  try simp only [Act.put, Tl.p2, Tl.p3, Tl.p4]
  refine Tl.tf 3 (⟨some 17, .indexAddr 41 (.tmp 16) (.tmp 15), 0, "cpu.go:384", #[⟨2, .data⟩, ⟨1, .data⟩], none⟩ : Oper) ?v4 rfl ?hy4 (by assumption) ?_
  case hy4 => (intro w; go_simp; all_goals (with_reducible rfl))
  try simp only [Act.put, Tl.p2, Tl.p3, Tl.p4]
  refine Tl.tk 4 (⟨some 18, .load 40 (.tmp 17), 40, "cpu.go:384", #[⟨3, .data⟩], none⟩ : Oper) ?v5 rfl ?hy5 (by assumption) ?_
  case hy5 => (intro w hSw; (try dsimp only at hSw); go_simp; all_goals (with_reducible rfl))
  try simp only [Act.put, Tl.p2, Tl.p3, Tl.p4]
  refine Tl.tf 5 (⟨some 19, .fieldAddr 123 (.tmp 5) 4, 0, "cpu.go:384", #[], none⟩ : Oper) ?v6 rfl ?hy6 (by assumption) ?_
  case hy6 => (intro w; go_simp; all_goals (with_reducible rfl))
  try simp only [Act.put, Tl.p2, Tl.p3, Tl.p4]
  refine Tl.tk 6 (⟨some 20, .load 21 (.tmp 19), 21, "cpu.go:384", #[⟨5, .data⟩], none⟩ : Oper) ?v7 rfl ?hy7 (by assumption) ?_
  case hy7 => (intro w hSw; (try dsimp only at hSw); go_simp; all_goals (with_reducible rfl))
  try simp only [Act.put, Tl.p2, Tl.p3, Tl.p4]
  refine Tl.tf 7 (⟨some 21, .convert 21 40 (.tmp 20), 40, "cpu.go:384", #[⟨6, .data⟩], none⟩ : Oper) ?v8 rfl ?hy8 (by assumption) ?_
  case hy8 => (intro w; go_simp; all_goals (with_reducible rfl))
  try simp only [Act.put, Tl.p2, Tl.p3, Tl.p4]
  refine Tl.tf 8 (⟨some 22, .binOp .add 40 (.tmp 18) (.tmp 21) 40, 40, "cpu.go:384", #[⟨4, .data⟩, ⟨7, .data⟩], none⟩ : Oper) ?v9 rfl ?hy9 (by assumption) ?_
  case hy9 => (intro w; go_simp; all_goals (with_reducible rfl))
  try simp only [Act.put, Tl.p2, Tl.p3, Tl.p4]
  refine Tl.tf 9 (⟨some 7, .assign (.tmp 22), 40, "cpu.go:384", #[⟨8, .data⟩, ⟨0, .phase⟩, ⟨1, .phase⟩, ⟨2, .phase⟩, ⟨3, .phase⟩, ⟨4, .phase⟩, ⟨5, .phase⟩, ⟨6, .phase⟩, ⟨7, .phase⟩, ⟨8, .phase⟩], none⟩ : Oper) ?v10 rfl ?hy10 (by assumption) ?_
  case hy10 => (intro w; go_simp; all_goals (with_reducible rfl))
  try simp only [Act.put, Tl.p2, Tl.p3, Tl.p4]
  refine Tl.done (by kernel_rfl) ?_ _
  have M1 := Lib.hid M0.out.drew
  obtain ⟨⟨x0, x1, x2, x3, x4⟩, _, _⟩ := M1.out.box5 1 rfl
  clear M0
  go_upto_region 7 with fail
  go_wp2_with (show wpList _ _ _ ((⟨_, Op.load 44 _, _, _, _, _⟩ : Oper) :: _) _ _; refine Mem.go_loadAll 44 rfl rfl rfl 2 M1.out rfl uCpu (by rw [HZ.out]; exact sCpu) ?_)
  refine (HR.out _ _ M1.out.up3).mono ?_
  rintro e w5 ⟨ad, ca2, L2, rfl, had, hca0, hca1, had2, hL2, h5⟩
  have HL2 := Lib.hid hL2
  have M5 := Lib.hid h5.dn3
  clear h5 hL2 x0 x1 x2 x3 x4 M1
  obtain ⟨⟨x0, x1, x2, x3, x4⟩, _, _⟩ := M5.out.box5 1 rfl
  have zad : (ad : Int) ≤ 4294967295 := by omega
  by_cases hc0 : ca2 = 0
  · have hlt := had2 hc0
    subst hc0
    go_wp2_with fail
    refine (HLD.out ad L2 hlt HL2.out _ (memSl M5.out.up3)).mono ?_
    rintro e w6 ⟨v, ok, rfl, hv, rfl⟩
    have HL3 := HL2
    go_wp2_with (show wpList _ _ _ ((⟨_, Op.load 44 _, _, _, _, _⟩ : Oper) :: _) _ _; refine Mem.go_loadAll 44 rfl rfl rfl 2 M5.out rfl uCpu (by rw [HZ.out]; exact sCpu) ?_)
    refine (HST.out _ hv _).mono ?_
    rintro e w6 ⟨rfl, h6, hok⟩
    have HOKS := Lib.hid hok
    have M6a := Lib.hid (M5.out.keep h6)
    clear h6 hok
    obtain ⟨⟨x0, x1, x2, x3, x4⟩, _, _⟩ := M6a.out.box5 1 rfl
    generalize setR C a _ = T at *
    go_upto_region 16 with (show wpList _ _ _ ((⟨_, Op.store 44 _ _, _, _, _, _⟩ : Oper) :: _) _ _; refine Mem.go_storeAll 44 rfl rfl rfl rfl 2 M6a.out rfl (by rw [wA_size, HOKS.out.len]; exact sCpu) (by rw [wA_size, HOKS.out.len, HZ.out]) (wA_one _) ?_; intro w7 M6'; have M6 := Lib.hid M6'; clear M6')
    simp only [List.set_cons_zero, List.set_cons_succ] at M6
    have d16 := M6.out.cell 2 rfl 16 (wA_at (by rw [HOKS.out.len]; decide))
    have e16 := M6.out.free 2 rfl 16
    have M7' := M6.out.put 2 rfl 16 (.int .u32 ((T.getD 16 0 + 4) % 4294967296))
    rw [wA_set] at M7'
    simp only [List.set_cons_zero, List.set_cons_succ] at M7'
    obtain ⟨p, hp⟩ : ∃ p, T.getD 16 0 = p := ⟨_, rfl⟩
    rw [hp] at d16 M7'
    clear hp
    have M7 := Lib.hid M7'
    clear M7'
    have HOK7 := Lib.hid (HOKS.out.set (j := 16) (v := (p + 4) % 4294967296) (mod_wd _))
    go_upto_region 17 with fail
    go_wp2_with (first | (show wpList _ _ _ ((⟨_, Op.load 44 _, _, _, _, _⟩ : Oper) :: _) _ _; refine Mem.go_loadAll 44 rfl rfl rfl 2 M7.out rfl uCpu (by rw [wA_size, HOK7.out.len]; exact sCpu) ?_) | (show wpList _ _ _ ((⟨_, Op.store 44 _ _, _, _, _, _⟩ : Oper) :: _) _ _; refine Mem.go_storeAll 44 rfl rfl rfl rfl 0 M7.out rfl (by rw [wA_size, HOK7.out.len]; exact sCpu) (by rw [wA_size, HOK7.out.len]; rfl) (wA_one _) ?_; intro w8 M8'; have M8 := Lib.hid M8'; clear M8'))
    refine bodyPost_ret (Bx.res_c Tryz.results120 rfl (load_w (by rw [wA_size, HOK7.out.len]) (M8.out.blk 0 rfl))) rfl ?_
    exact ⟨_, _, rfl, HOK7.out, HL3.out, M8.out.rest.rest.rest⟩
  · have zc : (ca2 == 0) = false := by rw [beq_eq_false_iff_ne]; exact hc0
    have HTO2 := Lib.hid (HTO.out ca2 ⟨hca0, hca1⟩)
    go_wp2_with (show wpList _ _ _ ((⟨_, Op.load 44 _, _, _, _, _⟩ : Oper) :: _) _ _; refine Mem.go_loadAll 44 rfl rfl rfl 2 M5.out rfl uCpu (by rw [HZ.out]; exact sCpu) ?_)
    refine (HTR.out ca2 ⟨hca0, hca1⟩ _).mono ?_
    rintro e w6 ⟨rfl, h6⟩
    have M6 := Lib.hid (M5.out.keep h6)
    clear h6
    go_wp2_with (show wpList _ _ _ ((⟨_, Op.store 44 _ _, _, _, _, _⟩ : Oper) :: _) _ _; refine Mem.go_storeAll 44 rfl rfl rfl rfl 0 M6.out rfl (by rw [wA_size, HTO2.out.len]; exact sCpu) (by rw [wA_size, HTO2.out.len]; rfl) (wA_one _) ?_; intro w8 M8'; have M8 := Lib.hid M8'; clear M8')
    refine bodyPost_ret (Bx.res_c Tryz.results120 rfl (load_w (by rw [wA_size, HTO2.out.len]) (M8.out.blk 0 rfl))) rfl ?_
    exact ⟨_, _, rfl, HTO2.out, HL2.out, M8.out.rest.rest.rest⟩
set_option maxHeartbeats 6000000 in
theorem xfer_lb (W : World) (g cap a b c : Nat) (i : Int) (ha : a ≤ 15) (hb : b ≤ 15) (C L : List Int) (F : List Ck) (hC : CpuOK C) (hL : MemOK L) (w : World) (hM : Mem W w (memR W.heap.size g cap L :: F)) :
    Calls Tryz.prog 120 #[.agg (wA C), .slice (some ⟨g, 0, none⟩) 256 cap, inV 33 a b c i] w (XferTo W g cap F) := by
  have cb := wA_at (L := C) (j := b) (by rw [hC.len]; omega)
  obtain ⟨x, hxe⟩ : ∃ x, C.getD b 0 = x := ⟨_, rfl⟩
  rw [hxe] at cb
  have z1 : (b : Int) < 16 := by omega
  have z2 : (0 : Int) ≤ b := by omega
  have z3 : (a : Int) < 16 := by omega
  have z4' : (0 : Int) ≤ a := by omega
  obtain ⟨va, hva, hva2⟩ := wd_nat (mod_wd (x + i))
  have zva : (va : Int) ≤ 4294967295 := by omega
  have hcap := memCap hM
  have HR := Lib.hid fun (F' : List Ck) (w' : World) (h : Mem W w' (memR W.heap.size g cap L :: F')) => reach1_2 W g cap va C L F' hva2 hC hL w' h
  unfold RchTo at HR
  have HTR := Lib.hid fun ca hca w => trap_any C ca (va : Int) hC hca w
  unfold CpuTo at HTR
  have HTO := Lib.hid fun ca (h : 0 ≤ ca ∧ ca ≤ 100) => trapL_ok hC (cause := ca) (bad := (va : Int)) ⟨h.1, by omega⟩ ⟨by omega, by omega⟩
  have HST := Lib.hid fun v hv w => (show Calls Tryz.prog 95 _ w (fun e w' => e = .returned (.agg (wA (setR C a v))) ∧ Held w w' ∧ CpuOK (setR C a v)) from (set_any C a v hC ha w).mono fun e w' h => ⟨h.1, h.2, setR_ok hC a hv⟩)
  have HLD := Lib.hid fun (ad : Nat) (L' : List Int) (h1 : ad < 1024) (hL' : MemOK L') (w' : World) (h : Sl 1 uC w' (some ⟨g, 0, none⟩) 256 L') => load1 (some ⟨g, 0, none⟩) cap ad L' (by omega) hcap w' h
  unfold LdSome at HLD
  have HSX := Lib.hid fun (v : Int) (hv : Wd v) (w : World) => sext_any v hv w
  unfold WdSome at HSX
  have HOKC := Lib.hid hC
  have HZ : Is (wA C).size 25 := ⟨by rw [wA_size]; exact hC.len⟩
  have M0 := Lib.hid (((hM.allocF (b := w.heap.size) rfl (wA C) 44).allocF (b := w.heap.size + 1) (by simp) #[.int .i64 33, .int .i64 (a : Int), .int .i64 (b : Int), .int .i64 (c : Int), .int .i32 i] 123).allocF (b := w.heap.size + 1 + 1) (by simp) z25 44)
  clear hM hC hL ha hb hxe
  have HI := Lib.hid fun (w' : World) (h : w'.heap[w.heap.size + 1]? = some (.cells #[.int .i64 33, .int .i64 (a : Int), .int .i64 (b : Int), .int .i64 (c : Int), .int .i32 i] 123 (0, 0))) => (⟨Bx.cell h 2 rfl, Bx.cell h 4 rfl⟩ : _ ∧ _)
  obtain ⟨cA, hcA⟩ : ∃ cA, wA C = cA := ⟨_, rfl⟩
  have hcA2 : Is cA (wA C) := ⟨hcA.symm⟩
  rw [hcA] at cb HZ M0 HR HTR HST ⊢
  clear hcA
  have HC := Lib.hid fun (w' : World) (h : w'.heap[w.heap.size]? = some (.cells cA 44 (0, 0))) => Bx.cell h b cb
  unfold XferTo
  go_enter Tryz.func120, Tryz.ntmps120
  go_upto_region 1 with fail
  refine Tl.start 10 (fun w' => w'.cell? ⟨w.heap.size, b, none⟩ = some (.int .u32 x) ∧ w'.cell? ⟨w.heap.size + 1, 2, none⟩ = some (.int .i64 (b : Int)) ∧ w'.cell? ⟨w.heap.size + 1, 4, none⟩ = some (.int .i32 i)) (by kernel_rfl) (⟨HC.out _ (M0.out.drew.blk 2 rfl), HI.out _ (M0.out.drew.blk 1 rfl)⟩) (fun hHeld => ?_)
  refine Tl.tf 0 (⟨some 14, .fieldAddr 123 (.tmp 5) 2, 0, "cpu.go:384", #[], none⟩ : Oper) ?v11 rfl ?hy11 (by assumption) ?_
  case hy11 => (intro w; go_simp; all_goals (with_reducible rfl))
  try simp only [Act.put, Tl.p2, Tl.p3, Tl.p4]
  refine Tl.tk 1 (⟨some 15, .load 3 (.tmp 14), 3, "cpu.go:384", #[⟨0, .data⟩], none⟩ : Oper) ?v12 rfl ?hy12 (by assumption) ?_
  case hy12 => (intro w hSw; (try dsimp only at hSw); go_simp; all_goals (with_reducible rfl))
  try simp only [Act.put, Tl.p2, Tl.p3, Tl.p4]
  refine Tl.tf 2 (⟨some 16, .fieldAddr 44 (.tmp 3) 0, 0, "cpu.go:384", #[], none⟩ : Oper) ?v13 rfl ?hy13 (by assumption) ?_
  case hy13 => (intro w; go_simp; all_goals (with_reducible rfl))
  try simp only [Act.put, Tl.p2, Tl.p3, Tl.p4]
  refine Tl.tf 3 (⟨some 17, .indexAddr 41 (.tmp 16) (.tmp 15), 0, "cpu.go:384", #[⟨2, .data⟩, ⟨1, .data⟩], none⟩ : Oper) ?v14 rfl ?hy14 (by assumption) ?_
  case hy14 => (intro w; go_simp; all_goals (with_reducible rfl))
  try simp only [Act.put, Tl.p2, Tl.p3, Tl.p4]
  refine Tl.tk 4 (⟨some 18, .load 40 (.tmp 17), 40, "cpu.go:384", #[⟨3, .data⟩], none⟩ : Oper) ?v15 rfl ?hy15 (by assumption) ?_
  case hy15 => (intro w hSw; (try dsimp only at hSw); go_simp; all_goals (with_reducible rfl))
  try simp only [Act.put, Tl.p2, Tl.p3, Tl.p4]
  refine Tl.tf 5 (⟨some 19, .fieldAddr 123 (.tmp 5) 4, 0, "cpu.go:384", #[], none⟩ : Oper) ?v16 rfl ?hy16 (by assumption) ?_
  case hy16 => (intro w; go_simp; all_goals (with_reducible rfl))
  try simp only [Act.put, Tl.p2, Tl.p3, Tl.p4]
  refine Tl.tk 6 (⟨some 20, .load 21 (.tmp 19), 21, "cpu.go:384", #[⟨5, .data⟩], none⟩ : Oper) ?v17 rfl ?hy17 (by assumption) ?_
  case hy17 => (intro w hSw; (try dsimp only at hSw); go_simp; all_goals (with_reducible rfl))
  try simp only [Act.put, Tl.p2, Tl.p3, Tl.p4]
  refine Tl.tf 7 (⟨some 21, .convert 21 40 (.tmp 20), 40, "cpu.go:384", #[⟨6, .data⟩], none⟩ : Oper) ?v18 rfl ?hy18 (by assumption) ?_
  case hy18 => (intro w; go_simp; all_goals (with_reducible rfl))
  try simp only [Act.put, Tl.p2, Tl.p3, Tl.p4]
  refine Tl.tf 8 (⟨some 22, .binOp .add 40 (.tmp 18) (.tmp 21) 40, 40, "cpu.go:384", #[⟨4, .data⟩, ⟨7, .data⟩], none⟩ : Oper) ?v19 rfl ?hy19 (by assumption) ?_
  case hy19 => (intro w; go_simp; all_goals (with_reducible rfl))
  try simp only [Act.put, Tl.p2, Tl.p3, Tl.p4]
  refine Tl.tf 9 (⟨some 7, .assign (.tmp 22), 40, "cpu.go:384", #[⟨8, .data⟩, ⟨0, .phase⟩, ⟨1, .phase⟩, ⟨2, .phase⟩, ⟨3, .phase⟩, ⟨4, .phase⟩, ⟨5, .phase⟩, ⟨6, .phase⟩, ⟨7, .phase⟩, ⟨8, .phase⟩], none⟩ : Oper) ?v20 rfl ?hy20 (by assumption) ?_
  case hy20 => (intro w; go_simp; all_goals (with_reducible rfl))
  try simp only [Act.put, Tl.p2, Tl.p3, Tl.p4]
  refine Tl.done (by kernel_rfl) ?_ _
  have M1 := Lib.hid M0.out.drew
  obtain ⟨⟨x0, x1, x2, x3, x4⟩, _, _⟩ := M1.out.box5 1 rfl
  clear M0
  go_upto_region 7 with fail
  go_wp2_with (show wpList _ _ _ ((⟨_, Op.load 44 _, _, _, _, _⟩ : Oper) :: _) _ _; refine Mem.go_loadAll 44 rfl rfl rfl 2 M1.out rfl uCpu (by rw [HZ.out]; exact sCpu) ?_)
  refine (HR.out _ _ M1.out.up3).mono ?_
  rintro e w5 ⟨ad, ca2, L2, rfl, had, hca0, hca1, had2, hL2, h5⟩
  have HL2 := Lib.hid hL2
  have M5 := Lib.hid h5.dn3
  clear h5 hL2 x0 x1 x2 x3 x4 M1
  obtain ⟨⟨x0, x1, x2, x3, x4⟩, _, _⟩ := M5.out.box5 1 rfl
  have zad : (ad : Int) ≤ 4294967295 := by omega
  by_cases hc0 : ca2 = 0
  · have hlt := had2 hc0
    subst hc0
    go_wp2_with fail
    refine (HLD.out ad L2 hlt HL2.out _ (memSl M5.out.up3)).mono ?_
    rintro e w6 ⟨v, ok, rfl, hv, rfl⟩
    go_wp2_with fail
    refine (HSX.out v hv _).mono ?_
    rintro e w6 ⟨v2, rfl, hv2, rfl⟩
    have HL3 := HL2
    go_wp2_with (show wpList _ _ _ ((⟨_, Op.load 44 _, _, _, _, _⟩ : Oper) :: _) _ _; refine Mem.go_loadAll 44 rfl rfl rfl 2 M5.out rfl uCpu (by rw [HZ.out]; exact sCpu) ?_)
    refine (HST.out _ hv2 _).mono ?_
    rintro e w6 ⟨rfl, h6, hok⟩
    have HOKS := Lib.hid hok
    have M6a := Lib.hid (M5.out.keep h6)
    clear h6 hok
    obtain ⟨⟨x0, x1, x2, x3, x4⟩, _, _⟩ := M6a.out.box5 1 rfl
    generalize setR C a _ = T at *
    go_upto_region 16 with (show wpList _ _ _ ((⟨_, Op.store 44 _ _, _, _, _, _⟩ : Oper) :: _) _ _; refine Mem.go_storeAll 44 rfl rfl rfl rfl 2 M6a.out rfl (by rw [wA_size, HOKS.out.len]; exact sCpu) (by rw [wA_size, HOKS.out.len, HZ.out]) (wA_one _) ?_; intro w7 M6'; have M6 := Lib.hid M6'; clear M6')
    simp only [List.set_cons_zero, List.set_cons_succ] at M6
    have d16 := M6.out.cell 2 rfl 16 (wA_at (by rw [HOKS.out.len]; decide))
    have e16 := M6.out.free 2 rfl 16
    have M7' := M6.out.put 2 rfl 16 (.int .u32 ((T.getD 16 0 + 4) % 4294967296))
    rw [wA_set] at M7'
    simp only [List.set_cons_zero, List.set_cons_succ] at M7'
    obtain ⟨p, hp⟩ : ∃ p, T.getD 16 0 = p := ⟨_, rfl⟩
    rw [hp] at d16 M7'
    clear hp
    have M7 := Lib.hid M7'
    clear M7'
    have HOK7 := Lib.hid (HOKS.out.set (j := 16) (v := (p + 4) % 4294967296) (mod_wd _))
    go_upto_region 17 with fail
    go_wp2_with (first | (show wpList _ _ _ ((⟨_, Op.load 44 _, _, _, _, _⟩ : Oper) :: _) _ _; refine Mem.go_loadAll 44 rfl rfl rfl 2 M7.out rfl uCpu (by rw [wA_size, HOK7.out.len]; exact sCpu) ?_) | (show wpList _ _ _ ((⟨_, Op.store 44 _ _, _, _, _, _⟩ : Oper) :: _) _ _; refine Mem.go_storeAll 44 rfl rfl rfl rfl 0 M7.out rfl (by rw [wA_size, HOK7.out.len]; exact sCpu) (by rw [wA_size, HOK7.out.len]; rfl) (wA_one _) ?_; intro w8 M8'; have M8 := Lib.hid M8'; clear M8'))
    refine bodyPost_ret (Bx.res_c Tryz.results120 rfl (load_w (by rw [wA_size, HOK7.out.len]) (M8.out.blk 0 rfl))) rfl ?_
    exact ⟨_, _, rfl, HOK7.out, HL3.out, M8.out.rest.rest.rest⟩
  · have zc : (ca2 == 0) = false := by rw [beq_eq_false_iff_ne]; exact hc0
    have HTO2 := Lib.hid (HTO.out ca2 ⟨hca0, hca1⟩)
    go_wp2_with (show wpList _ _ _ ((⟨_, Op.load 44 _, _, _, _, _⟩ : Oper) :: _) _ _; refine Mem.go_loadAll 44 rfl rfl rfl 2 M5.out rfl uCpu (by rw [HZ.out]; exact sCpu) ?_)
    refine (HTR.out ca2 ⟨hca0, hca1⟩ _).mono ?_
    rintro e w6 ⟨rfl, h6⟩
    have M6 := Lib.hid (M5.out.keep h6)
    clear h6
    go_wp2_with (show wpList _ _ _ ((⟨_, Op.store 44 _ _, _, _, _, _⟩ : Oper) :: _) _ _; refine Mem.go_storeAll 44 rfl rfl rfl rfl 0 M6.out rfl (by rw [wA_size, HTO2.out.len]; exact sCpu) (by rw [wA_size, HTO2.out.len]; rfl) (wA_one _) ?_; intro w8 M8'; have M8 := Lib.hid M8'; clear M8')
    refine bodyPost_ret (Bx.res_c Tryz.results120 rfl (load_w (by rw [wA_size, HTO2.out.len]) (M8.out.blk 0 rfl))) rfl ?_
    exact ⟨_, _, rfl, HTO2.out, HL2.out, M8.out.rest.rest.rest⟩
set_option maxHeartbeats 6000000 in
theorem xfer_lbu (W : World) (g cap a b c : Nat) (i : Int) (ha : a ≤ 15) (hb : b ≤ 15) (C L : List Int) (F : List Ck) (hC : CpuOK C) (hL : MemOK L) (w : World) (hM : Mem W w (memR W.heap.size g cap L :: F)) :
    Calls Tryz.prog 120 #[.agg (wA C), .slice (some ⟨g, 0, none⟩) 256 cap, inV 34 a b c i] w (XferTo W g cap F) := by
  have cb := wA_at (L := C) (j := b) (by rw [hC.len]; omega)
  obtain ⟨x, hxe⟩ : ∃ x, C.getD b 0 = x := ⟨_, rfl⟩
  rw [hxe] at cb
  have z1 : (b : Int) < 16 := by omega
  have z2 : (0 : Int) ≤ b := by omega
  have z3 : (a : Int) < 16 := by omega
  have z4' : (0 : Int) ≤ a := by omega
  obtain ⟨va, hva, hva2⟩ := wd_nat (mod_wd (x + i))
  have zva : (va : Int) ≤ 4294967295 := by omega
  have hcap := memCap hM
  have HR := Lib.hid fun (F' : List Ck) (w' : World) (h : Mem W w' (memR W.heap.size g cap L :: F')) => reach1_2 W g cap va C L F' hva2 hC hL w' h
  unfold RchTo at HR
  have HTR := Lib.hid fun ca hca w => trap_any C ca (va : Int) hC hca w
  unfold CpuTo at HTR
  have HTO := Lib.hid fun ca (h : 0 ≤ ca ∧ ca ≤ 100) => trapL_ok hC (cause := ca) (bad := (va : Int)) ⟨h.1, by omega⟩ ⟨by omega, by omega⟩
  have HST := Lib.hid fun v hv w => (show Calls Tryz.prog 95 _ w (fun e w' => e = .returned (.agg (wA (setR C a v))) ∧ Held w w' ∧ CpuOK (setR C a v)) from (set_any C a v hC ha w).mono fun e w' h => ⟨h.1, h.2, setR_ok hC a hv⟩)
  have HLD := Lib.hid fun (ad : Nat) (L' : List Int) (h1 : ad < 1024) (hL' : MemOK L') (w' : World) (h : Sl 1 uC w' (some ⟨g, 0, none⟩) 256 L') => load1 (some ⟨g, 0, none⟩) cap ad L' (by omega) hcap w' h
  unfold LdSome at HLD
  have HOKC := Lib.hid hC
  have HZ : Is (wA C).size 25 := ⟨by rw [wA_size]; exact hC.len⟩
  have M0 := Lib.hid (((hM.allocF (b := w.heap.size) rfl (wA C) 44).allocF (b := w.heap.size + 1) (by simp) #[.int .i64 34, .int .i64 (a : Int), .int .i64 (b : Int), .int .i64 (c : Int), .int .i32 i] 123).allocF (b := w.heap.size + 1 + 1) (by simp) z25 44)
  clear hM hC hL ha hb hxe
  have HI := Lib.hid fun (w' : World) (h : w'.heap[w.heap.size + 1]? = some (.cells #[.int .i64 34, .int .i64 (a : Int), .int .i64 (b : Int), .int .i64 (c : Int), .int .i32 i] 123 (0, 0))) => (⟨Bx.cell h 2 rfl, Bx.cell h 4 rfl⟩ : _ ∧ _)
  obtain ⟨cA, hcA⟩ : ∃ cA, wA C = cA := ⟨_, rfl⟩
  have hcA2 : Is cA (wA C) := ⟨hcA.symm⟩
  rw [hcA] at cb HZ M0 HR HTR HST ⊢
  clear hcA
  have HC := Lib.hid fun (w' : World) (h : w'.heap[w.heap.size]? = some (.cells cA 44 (0, 0))) => Bx.cell h b cb
  unfold XferTo
  go_enter Tryz.func120, Tryz.ntmps120
  go_upto_region 1 with fail
  refine Tl.start 10 (fun w' => w'.cell? ⟨w.heap.size, b, none⟩ = some (.int .u32 x) ∧ w'.cell? ⟨w.heap.size + 1, 2, none⟩ = some (.int .i64 (b : Int)) ∧ w'.cell? ⟨w.heap.size + 1, 4, none⟩ = some (.int .i32 i)) (by kernel_rfl) (⟨HC.out _ (M0.out.drew.blk 2 rfl), HI.out _ (M0.out.drew.blk 1 rfl)⟩) (fun hHeld => ?_)
  refine Tl.tf 0 (⟨some 14, .fieldAddr 123 (.tmp 5) 2, 0, "cpu.go:384", #[], none⟩ : Oper) ?v21 rfl ?hy21 (by assumption) ?_
  case hy21 => (intro w; go_simp; all_goals (with_reducible rfl))
  try simp only [Act.put, Tl.p2, Tl.p3, Tl.p4]
  refine Tl.tk 1 (⟨some 15, .load 3 (.tmp 14), 3, "cpu.go:384", #[⟨0, .data⟩], none⟩ : Oper) ?v22 rfl ?hy22 (by assumption) ?_
  case hy22 => (intro w hSw; (try dsimp only at hSw); go_simp; all_goals (with_reducible rfl))
  try simp only [Act.put, Tl.p2, Tl.p3, Tl.p4]
  refine Tl.tf 2 (⟨some 16, .fieldAddr 44 (.tmp 3) 0, 0, "cpu.go:384", #[], none⟩ : Oper) ?v23 rfl ?hy23 (by assumption) ?_
  case hy23 => (intro w; go_simp; all_goals (with_reducible rfl))
  try simp only [Act.put, Tl.p2, Tl.p3, Tl.p4]
  refine Tl.tf 3 (⟨some 17, .indexAddr 41 (.tmp 16) (.tmp 15), 0, "cpu.go:384", #[⟨2, .data⟩, ⟨1, .data⟩], none⟩ : Oper) ?v24 rfl ?hy24 (by assumption) ?_
  case hy24 => (intro w; go_simp; all_goals (with_reducible rfl))
  try simp only [Act.put, Tl.p2, Tl.p3, Tl.p4]
  refine Tl.tk 4 (⟨some 18, .load 40 (.tmp 17), 40, "cpu.go:384", #[⟨3, .data⟩], none⟩ : Oper) ?v25 rfl ?hy25 (by assumption) ?_
  case hy25 => (intro w hSw; (try dsimp only at hSw); go_simp; all_goals (with_reducible rfl))
  try simp only [Act.put, Tl.p2, Tl.p3, Tl.p4]
  refine Tl.tf 5 (⟨some 19, .fieldAddr 123 (.tmp 5) 4, 0, "cpu.go:384", #[], none⟩ : Oper) ?v26 rfl ?hy26 (by assumption) ?_
  case hy26 => (intro w; go_simp; all_goals (with_reducible rfl))
  try simp only [Act.put, Tl.p2, Tl.p3, Tl.p4]
  refine Tl.tk 6 (⟨some 20, .load 21 (.tmp 19), 21, "cpu.go:384", #[⟨5, .data⟩], none⟩ : Oper) ?v27 rfl ?hy27 (by assumption) ?_
  case hy27 => (intro w hSw; (try dsimp only at hSw); go_simp; all_goals (with_reducible rfl))
  try simp only [Act.put, Tl.p2, Tl.p3, Tl.p4]
  refine Tl.tf 7 (⟨some 21, .convert 21 40 (.tmp 20), 40, "cpu.go:384", #[⟨6, .data⟩], none⟩ : Oper) ?v28 rfl ?hy28 (by assumption) ?_
  case hy28 => (intro w; go_simp; all_goals (with_reducible rfl))
  try simp only [Act.put, Tl.p2, Tl.p3, Tl.p4]
  refine Tl.tf 8 (⟨some 22, .binOp .add 40 (.tmp 18) (.tmp 21) 40, 40, "cpu.go:384", #[⟨4, .data⟩, ⟨7, .data⟩], none⟩ : Oper) ?v29 rfl ?hy29 (by assumption) ?_
  case hy29 => (intro w; go_simp; all_goals (with_reducible rfl))
  try simp only [Act.put, Tl.p2, Tl.p3, Tl.p4]
  refine Tl.tf 9 (⟨some 7, .assign (.tmp 22), 40, "cpu.go:384", #[⟨8, .data⟩, ⟨0, .phase⟩, ⟨1, .phase⟩, ⟨2, .phase⟩, ⟨3, .phase⟩, ⟨4, .phase⟩, ⟨5, .phase⟩, ⟨6, .phase⟩, ⟨7, .phase⟩, ⟨8, .phase⟩], none⟩ : Oper) ?v30 rfl ?hy30 (by assumption) ?_
  case hy30 => (intro w; go_simp; all_goals (with_reducible rfl))
  try simp only [Act.put, Tl.p2, Tl.p3, Tl.p4]
  refine Tl.done (by kernel_rfl) ?_ _
  have M1 := Lib.hid M0.out.drew
  obtain ⟨⟨x0, x1, x2, x3, x4⟩, _, _⟩ := M1.out.box5 1 rfl
  clear M0
  go_upto_region 7 with fail
  go_wp2_with (show wpList _ _ _ ((⟨_, Op.load 44 _, _, _, _, _⟩ : Oper) :: _) _ _; refine Mem.go_loadAll 44 rfl rfl rfl 2 M1.out rfl uCpu (by rw [HZ.out]; exact sCpu) ?_)
  refine (HR.out _ _ M1.out.up3).mono ?_
  rintro e w5 ⟨ad, ca2, L2, rfl, had, hca0, hca1, had2, hL2, h5⟩
  have HL2 := Lib.hid hL2
  have M5 := Lib.hid h5.dn3
  clear h5 hL2 x0 x1 x2 x3 x4 M1
  obtain ⟨⟨x0, x1, x2, x3, x4⟩, _, _⟩ := M5.out.box5 1 rfl
  have zad : (ad : Int) ≤ 4294967295 := by omega
  by_cases hc0 : ca2 = 0
  · have hlt := had2 hc0
    subst hc0
    go_wp2_with fail
    refine (HLD.out ad L2 hlt HL2.out _ (memSl M5.out.up3)).mono ?_
    rintro e w6 ⟨v, ok, rfl, hv, rfl⟩
    have HL3 := HL2
    go_wp2_with (show wpList _ _ _ ((⟨_, Op.load 44 _, _, _, _, _⟩ : Oper) :: _) _ _; refine Mem.go_loadAll 44 rfl rfl rfl 2 M5.out rfl uCpu (by rw [HZ.out]; exact sCpu) ?_)
    refine (HST.out _ hv _).mono ?_
    rintro e w6 ⟨rfl, h6, hok⟩
    have HOKS := Lib.hid hok
    have M6a := Lib.hid (M5.out.keep h6)
    clear h6 hok
    obtain ⟨⟨x0, x1, x2, x3, x4⟩, _, _⟩ := M6a.out.box5 1 rfl
    generalize setR C a _ = T at *
    go_upto_region 16 with (show wpList _ _ _ ((⟨_, Op.store 44 _ _, _, _, _, _⟩ : Oper) :: _) _ _; refine Mem.go_storeAll 44 rfl rfl rfl rfl 2 M6a.out rfl (by rw [wA_size, HOKS.out.len]; exact sCpu) (by rw [wA_size, HOKS.out.len, HZ.out]) (wA_one _) ?_; intro w7 M6'; have M6 := Lib.hid M6'; clear M6')
    simp only [List.set_cons_zero, List.set_cons_succ] at M6
    have d16 := M6.out.cell 2 rfl 16 (wA_at (by rw [HOKS.out.len]; decide))
    have e16 := M6.out.free 2 rfl 16
    have M7' := M6.out.put 2 rfl 16 (.int .u32 ((T.getD 16 0 + 4) % 4294967296))
    rw [wA_set] at M7'
    simp only [List.set_cons_zero, List.set_cons_succ] at M7'
    obtain ⟨p, hp⟩ : ∃ p, T.getD 16 0 = p := ⟨_, rfl⟩
    rw [hp] at d16 M7'
    clear hp
    have M7 := Lib.hid M7'
    clear M7'
    have HOK7 := Lib.hid (HOKS.out.set (j := 16) (v := (p + 4) % 4294967296) (mod_wd _))
    go_upto_region 17 with fail
    go_wp2_with (first | (show wpList _ _ _ ((⟨_, Op.load 44 _, _, _, _, _⟩ : Oper) :: _) _ _; refine Mem.go_loadAll 44 rfl rfl rfl 2 M7.out rfl uCpu (by rw [wA_size, HOK7.out.len]; exact sCpu) ?_) | (show wpList _ _ _ ((⟨_, Op.store 44 _ _, _, _, _, _⟩ : Oper) :: _) _ _; refine Mem.go_storeAll 44 rfl rfl rfl rfl 0 M7.out rfl (by rw [wA_size, HOK7.out.len]; exact sCpu) (by rw [wA_size, HOK7.out.len]; rfl) (wA_one _) ?_; intro w8 M8'; have M8 := Lib.hid M8'; clear M8'))
    refine bodyPost_ret (Bx.res_c Tryz.results120 rfl (load_w (by rw [wA_size, HOK7.out.len]) (M8.out.blk 0 rfl))) rfl ?_
    exact ⟨_, _, rfl, HOK7.out, HL3.out, M8.out.rest.rest.rest⟩
  · have zc : (ca2 == 0) = false := by rw [beq_eq_false_iff_ne]; exact hc0
    have HTO2 := Lib.hid (HTO.out ca2 ⟨hca0, hca1⟩)
    go_wp2_with (show wpList _ _ _ ((⟨_, Op.load 44 _, _, _, _, _⟩ : Oper) :: _) _ _; refine Mem.go_loadAll 44 rfl rfl rfl 2 M5.out rfl uCpu (by rw [HZ.out]; exact sCpu) ?_)
    refine (HTR.out ca2 ⟨hca0, hca1⟩ _).mono ?_
    rintro e w6 ⟨rfl, h6⟩
    have M6 := Lib.hid (M5.out.keep h6)
    clear h6
    go_wp2_with (show wpList _ _ _ ((⟨_, Op.store 44 _ _, _, _, _, _⟩ : Oper) :: _) _ _; refine Mem.go_storeAll 44 rfl rfl rfl rfl 0 M6.out rfl (by rw [wA_size, HTO2.out.len]; exact sCpu) (by rw [wA_size, HTO2.out.len]; rfl) (wA_one _) ?_; intro w8 M8'; have M8 := Lib.hid M8'; clear M8')
    refine bodyPost_ret (Bx.res_c Tryz.results120 rfl (load_w (by rw [wA_size, HTO2.out.len]) (M8.out.blk 0 rfl))) rfl ?_
    exact ⟨_, _, rfl, HTO2.out, HL2.out, M8.out.rest.rest.rest⟩
set_option maxHeartbeats 6000000 in
theorem xfer_sw (W : World) (g cap a b c : Nat) (i : Int) (ha : a ≤ 15) (hb : b ≤ 15) (C L : List Int) (F : List Ck) (hC : CpuOK C) (hL : MemOK L) (w : World) (hM : Mem W w (memR W.heap.size g cap L :: F)) :
    Calls Tryz.prog 120 #[.agg (wA C), .slice (some ⟨g, 0, none⟩) 256 cap, inV 35 a b c i] w (XferTo W g cap F) := by
  have cb := wA_at (L := C) (j := b) (by rw [hC.len]; omega)
  obtain ⟨x, hxe⟩ : ∃ x, C.getD b 0 = x := ⟨_, rfl⟩
  rw [hxe] at cb
  have z1 : (b : Int) < 16 := by omega
  have z2 : (0 : Int) ≤ b := by omega
  have z3 : (a : Int) < 16 := by omega
  have z4' : (0 : Int) ≤ a := by omega
  obtain ⟨va, hva, hva2⟩ := wd_nat (mod_wd (x + i))
  have zva : (va : Int) ≤ 4294967295 := by omega
  have hcap := memCap hM
  have HR := Lib.hid fun (F' : List Ck) (w' : World) (h : Mem W w' (memR W.heap.size g cap L :: F')) => reach4_3 W g cap va C L F' hva2 hC hL w' h
  unfold RchTo at HR
  have HTR := Lib.hid fun ca hca w => trap_any C ca (va : Int) hC hca w
  unfold CpuTo at HTR
  have HTO := Lib.hid fun ca (h : 0 ≤ ca ∧ ca ≤ 100) => trapL_ok hC (cause := ca) (bad := (va : Int)) ⟨h.1, by omega⟩ ⟨by omega, by omega⟩
  have HST := Lib.hid fun v hv w => (show Calls Tryz.prog 95 _ w (fun e w' => e = .returned (.agg (wA (setR C a v))) ∧ Held w w' ∧ CpuOK (setR C a v)) from (set_any C a v hC ha w).mono fun e w' h => ⟨h.1, h.2, setR_ok hC a hv⟩)
  have ca := wA_at (L := C) (j := a) (by rw [hC.len]; omega)
  have hy := hC.at_ a
  obtain ⟨y, hye⟩ : ∃ y, C.getD a 0 = y := ⟨_, rfl⟩
  rw [hye] at ca hy
  have HPU := Lib.hid fun (ad : Nat) (L' : List Int) (F' : List Ck) (h1 : ad < 1024) (h2 : MemOK L') (w' : World) (h : Mem W w' (memR W.heap.size g cap L' :: F')) => put4 W g cap ad L' y F' h1 h2 hy w' h
  unfold MemTo at HPU
  have HOKC := Lib.hid hC
  have HZ : Is (wA C).size 25 := ⟨by rw [wA_size]; exact hC.len⟩
  have M0 := Lib.hid (((hM.allocF (b := w.heap.size) rfl (wA C) 44).allocF (b := w.heap.size + 1) (by simp) #[.int .i64 35, .int .i64 (a : Int), .int .i64 (b : Int), .int .i64 (c : Int), .int .i32 i] 123).allocF (b := w.heap.size + 1 + 1) (by simp) z25 44)
  clear hM hC hL ha hb hxe hye hy
  have HI := Lib.hid fun (w' : World) (h : w'.heap[w.heap.size + 1]? = some (.cells #[.int .i64 35, .int .i64 (a : Int), .int .i64 (b : Int), .int .i64 (c : Int), .int .i32 i] 123 (0, 0))) => (⟨Bx.cell h 2 rfl, Bx.cell h 4 rfl⟩ : _ ∧ _)
  obtain ⟨cA, hcA⟩ : ∃ cA, wA C = cA := ⟨_, rfl⟩
  have hcA2 : Is cA (wA C) := ⟨hcA.symm⟩
  rw [hcA] at cb HZ M0 HR HTR HST ca ⊢
  clear hcA
  have HC := Lib.hid fun (w' : World) (h : w'.heap[w.heap.size]? = some (.cells cA 44 (0, 0))) => Bx.cell h b cb
  unfold XferTo
  go_enter Tryz.func120, Tryz.ntmps120
  go_upto_region 1 with fail
  refine Tl.start 10 (fun w' => w'.cell? ⟨w.heap.size, b, none⟩ = some (.int .u32 x) ∧ w'.cell? ⟨w.heap.size + 1, 2, none⟩ = some (.int .i64 (b : Int)) ∧ w'.cell? ⟨w.heap.size + 1, 4, none⟩ = some (.int .i32 i)) (by kernel_rfl) (⟨HC.out _ (M0.out.drew.blk 2 rfl), HI.out _ (M0.out.drew.blk 1 rfl)⟩) (fun hHeld => ?_)
  refine Tl.tf 0 (⟨some 14, .fieldAddr 123 (.tmp 5) 2, 0, "cpu.go:384", #[], none⟩ : Oper) ?v31 rfl ?hy31 (by assumption) ?_
  case hy31 => (intro w; go_simp; all_goals (with_reducible rfl))
  try simp only [Act.put, Tl.p2, Tl.p3, Tl.p4]
  refine Tl.tk 1 (⟨some 15, .load 3 (.tmp 14), 3, "cpu.go:384", #[⟨0, .data⟩], none⟩ : Oper) ?v32 rfl ?hy32 (by assumption) ?_
  case hy32 => (intro w hSw; (try dsimp only at hSw); go_simp; all_goals (with_reducible rfl))
  try simp only [Act.put, Tl.p2, Tl.p3, Tl.p4]
  refine Tl.tf 2 (⟨some 16, .fieldAddr 44 (.tmp 3) 0, 0, "cpu.go:384", #[], none⟩ : Oper) ?v33 rfl ?hy33 (by assumption) ?_
  case hy33 => (intro w; go_simp; all_goals (with_reducible rfl))
  try simp only [Act.put, Tl.p2, Tl.p3, Tl.p4]
  refine Tl.tf 3 (⟨some 17, .indexAddr 41 (.tmp 16) (.tmp 15), 0, "cpu.go:384", #[⟨2, .data⟩, ⟨1, .data⟩], none⟩ : Oper) ?v34 rfl ?hy34 (by assumption) ?_
  case hy34 => (intro w; go_simp; all_goals (with_reducible rfl))
  try simp only [Act.put, Tl.p2, Tl.p3, Tl.p4]
  refine Tl.tk 4 (⟨some 18, .load 40 (.tmp 17), 40, "cpu.go:384", #[⟨3, .data⟩], none⟩ : Oper) ?v35 rfl ?hy35 (by assumption) ?_
  case hy35 => (intro w hSw; (try dsimp only at hSw); go_simp; all_goals (with_reducible rfl))
  try simp only [Act.put, Tl.p2, Tl.p3, Tl.p4]
  refine Tl.tf 5 (⟨some 19, .fieldAddr 123 (.tmp 5) 4, 0, "cpu.go:384", #[], none⟩ : Oper) ?v36 rfl ?hy36 (by assumption) ?_
  case hy36 => (intro w; go_simp; all_goals (with_reducible rfl))
  try simp only [Act.put, Tl.p2, Tl.p3, Tl.p4]
  refine Tl.tk 6 (⟨some 20, .load 21 (.tmp 19), 21, "cpu.go:384", #[⟨5, .data⟩], none⟩ : Oper) ?v37 rfl ?hy37 (by assumption) ?_
  case hy37 => (intro w hSw; (try dsimp only at hSw); go_simp; all_goals (with_reducible rfl))
  try simp only [Act.put, Tl.p2, Tl.p3, Tl.p4]
  refine Tl.tf 7 (⟨some 21, .convert 21 40 (.tmp 20), 40, "cpu.go:384", #[⟨6, .data⟩], none⟩ : Oper) ?v38 rfl ?hy38 (by assumption) ?_
  case hy38 => (intro w; go_simp; all_goals (with_reducible rfl))
  try simp only [Act.put, Tl.p2, Tl.p3, Tl.p4]
  refine Tl.tf 8 (⟨some 22, .binOp .add 40 (.tmp 18) (.tmp 21) 40, 40, "cpu.go:384", #[⟨4, .data⟩, ⟨7, .data⟩], none⟩ : Oper) ?v39 rfl ?hy39 (by assumption) ?_
  case hy39 => (intro w; go_simp; all_goals (with_reducible rfl))
  try simp only [Act.put, Tl.p2, Tl.p3, Tl.p4]
  refine Tl.tf 9 (⟨some 7, .assign (.tmp 22), 40, "cpu.go:384", #[⟨8, .data⟩, ⟨0, .phase⟩, ⟨1, .phase⟩, ⟨2, .phase⟩, ⟨3, .phase⟩, ⟨4, .phase⟩, ⟨5, .phase⟩, ⟨6, .phase⟩, ⟨7, .phase⟩, ⟨8, .phase⟩], none⟩ : Oper) ?v40 rfl ?hy40 (by assumption) ?_
  case hy40 => (intro w; go_simp; all_goals (with_reducible rfl))
  try simp only [Act.put, Tl.p2, Tl.p3, Tl.p4]
  refine Tl.done (by kernel_rfl) ?_ _
  have M1 := Lib.hid M0.out.drew
  obtain ⟨⟨x0, x1, x2, x3, x4⟩, _, _⟩ := M1.out.box5 1 rfl
  clear M0
  go_upto_region 7 with fail
  go_wp2_with (show wpList _ _ _ ((⟨_, Op.load 44 _, _, _, _, _⟩ : Oper) :: _) _ _; refine Mem.go_loadAll 44 rfl rfl rfl 2 M1.out rfl uCpu (by rw [HZ.out]; exact sCpu) ?_)
  refine (HR.out _ _ M1.out.up3).mono ?_
  rintro e w5 ⟨ad, ca2, L2, rfl, had, hca0, hca1, had2, hL2, h5⟩
  have HL2 := Lib.hid hL2
  have M5 := Lib.hid h5.dn3
  clear h5 hL2 x0 x1 x2 x3 x4 M1
  obtain ⟨⟨x0, x1, x2, x3, x4⟩, _, _⟩ := M5.out.box5 1 rfl
  have zad : (ad : Int) ≤ 4294967295 := by omega
  by_cases hc0 : ca2 = 0
  · have hlt := had2 hc0
    subst hc0
    have y0 := M5.out.cell 2 rfl a ca
    go_wp2_with fail
    refine (HPU.out ad L2 _ hlt HL2.out _ M5.out.up3).mono ?_
    rintro e w6 ⟨rfl, L3, hL3, h6⟩
    have HL3 := Lib.hid hL3
    have M6 := Lib.hid h6.dn3
    clear h6 hL3
    have d16 := M6.out.cell 2 rfl 16 (by rw [hcA2.out]; exact wA_at (by rw [HOKC.out.len]; decide))
    have e16 := M6.out.free 2 rfl 16
    have M7' := M6.out.put 2 rfl 16 (.int .u32 ((C.getD 16 0 + 4) % 4294967296))
    rw [hcA2.out, wA_set] at M7'
    simp only [List.set_cons_zero, List.set_cons_succ] at M7'
    obtain ⟨p, hp⟩ : ∃ p, C.getD 16 0 = p := ⟨_, rfl⟩
    rw [hp] at d16 M7'
    clear hp
    have M7 := Lib.hid M7'
    clear M7'
    have HOK7 := Lib.hid (HOKC.out.set (j := 16) (v := (p + 4) % 4294967296) (mod_wd _))
    have hs : cA.setIfInBounds 16 (.int .u32 ((p + 4) % 4294967296)) = wA (C.set 16 ((p + 4) % 4294967296)) := by rw [hcA2.out, wA_set]
    clear hs
    go_upto_region 17 with fail
    go_wp2_with (first | (show wpList _ _ _ ((⟨_, Op.load 44 _, _, _, _, _⟩ : Oper) :: _) _ _; refine Mem.go_loadAll 44 rfl rfl rfl 2 M7.out rfl uCpu (by rw [wA_size, HOK7.out.len]; exact sCpu) ?_) | (show wpList _ _ _ ((⟨_, Op.store 44 _ _, _, _, _, _⟩ : Oper) :: _) _ _; refine Mem.go_storeAll 44 rfl rfl rfl rfl 0 M7.out rfl (by rw [wA_size, HOK7.out.len]; exact sCpu) (by rw [wA_size, HOK7.out.len]; rfl) (wA_one _) ?_; intro w8 M8'; have M8 := Lib.hid M8'; clear M8'))
    refine bodyPost_ret (Bx.res_c Tryz.results120 rfl (load_w (by rw [wA_size, HOK7.out.len]) (M8.out.blk 0 rfl))) rfl ?_
    exact ⟨_, _, rfl, HOK7.out, HL3.out, M8.out.rest.rest.rest⟩
  · have zc : (ca2 == 0) = false := by rw [beq_eq_false_iff_ne]; exact hc0
    have HTO2 := Lib.hid (HTO.out ca2 ⟨hca0, hca1⟩)
    go_wp2_with (show wpList _ _ _ ((⟨_, Op.load 44 _, _, _, _, _⟩ : Oper) :: _) _ _; refine Mem.go_loadAll 44 rfl rfl rfl 2 M5.out rfl uCpu (by rw [HZ.out]; exact sCpu) ?_)
    refine (HTR.out ca2 ⟨hca0, hca1⟩ _).mono ?_
    rintro e w6 ⟨rfl, h6⟩
    have M6 := Lib.hid (M5.out.keep h6)
    clear h6
    go_wp2_with (show wpList _ _ _ ((⟨_, Op.store 44 _ _, _, _, _, _⟩ : Oper) :: _) _ _; refine Mem.go_storeAll 44 rfl rfl rfl rfl 0 M6.out rfl (by rw [wA_size, HTO2.out.len]; exact sCpu) (by rw [wA_size, HTO2.out.len]; rfl) (wA_one _) ?_; intro w8 M8'; have M8 := Lib.hid M8'; clear M8')
    refine bodyPost_ret (Bx.res_c Tryz.results120 rfl (load_w (by rw [wA_size, HTO2.out.len]) (M8.out.blk 0 rfl))) rfl ?_
    exact ⟨_, _, rfl, HTO2.out, HL2.out, M8.out.rest.rest.rest⟩
set_option maxHeartbeats 6000000 in
theorem xfer_sb (W : World) (g cap a b c : Nat) (i : Int) (ha : a ≤ 15) (hb : b ≤ 15) (C L : List Int) (F : List Ck) (hC : CpuOK C) (hL : MemOK L) (w : World) (hM : Mem W w (memR W.heap.size g cap L :: F)) :
    Calls Tryz.prog 120 #[.agg (wA C), .slice (some ⟨g, 0, none⟩) 256 cap, inV 36 a b c i] w (XferTo W g cap F) := by
  have cb := wA_at (L := C) (j := b) (by rw [hC.len]; omega)
  obtain ⟨x, hxe⟩ : ∃ x, C.getD b 0 = x := ⟨_, rfl⟩
  rw [hxe] at cb
  have z1 : (b : Int) < 16 := by omega
  have z2 : (0 : Int) ≤ b := by omega
  have z3 : (a : Int) < 16 := by omega
  have z4' : (0 : Int) ≤ a := by omega
  obtain ⟨va, hva, hva2⟩ := wd_nat (mod_wd (x + i))
  have zva : (va : Int) ≤ 4294967295 := by omega
  have hcap := memCap hM
  have HR := Lib.hid fun (F' : List Ck) (w' : World) (h : Mem W w' (memR W.heap.size g cap L :: F')) => reach1_3 W g cap va C L F' hva2 hC hL w' h
  unfold RchTo at HR
  have HTR := Lib.hid fun ca hca w => trap_any C ca (va : Int) hC hca w
  unfold CpuTo at HTR
  have HTO := Lib.hid fun ca (h : 0 ≤ ca ∧ ca ≤ 100) => trapL_ok hC (cause := ca) (bad := (va : Int)) ⟨h.1, by omega⟩ ⟨by omega, by omega⟩
  have HST := Lib.hid fun v hv w => (show Calls Tryz.prog 95 _ w (fun e w' => e = .returned (.agg (wA (setR C a v))) ∧ Held w w' ∧ CpuOK (setR C a v)) from (set_any C a v hC ha w).mono fun e w' h => ⟨h.1, h.2, setR_ok hC a hv⟩)
  have ca := wA_at (L := C) (j := a) (by rw [hC.len]; omega)
  have hy := hC.at_ a
  obtain ⟨y, hye⟩ : ∃ y, C.getD a 0 = y := ⟨_, rfl⟩
  rw [hye] at ca hy
  have HPU := Lib.hid fun (ad : Nat) (L' : List Int) (F' : List Ck) (h1 : ad < 1024) (h2 : MemOK L') (w' : World) (h : Mem W w' (memR W.heap.size g cap L' :: F')) => put1 W g cap ad L' y F' h1 h2 hy w' h
  unfold MemTo at HPU
  have HOKC := Lib.hid hC
  have HZ : Is (wA C).size 25 := ⟨by rw [wA_size]; exact hC.len⟩
  have M0 := Lib.hid (((hM.allocF (b := w.heap.size) rfl (wA C) 44).allocF (b := w.heap.size + 1) (by simp) #[.int .i64 36, .int .i64 (a : Int), .int .i64 (b : Int), .int .i64 (c : Int), .int .i32 i] 123).allocF (b := w.heap.size + 1 + 1) (by simp) z25 44)
  clear hM hC hL ha hb hxe hye hy
  have HI := Lib.hid fun (w' : World) (h : w'.heap[w.heap.size + 1]? = some (.cells #[.int .i64 36, .int .i64 (a : Int), .int .i64 (b : Int), .int .i64 (c : Int), .int .i32 i] 123 (0, 0))) => (⟨Bx.cell h 2 rfl, Bx.cell h 4 rfl⟩ : _ ∧ _)
  obtain ⟨cA, hcA⟩ : ∃ cA, wA C = cA := ⟨_, rfl⟩
  have hcA2 : Is cA (wA C) := ⟨hcA.symm⟩
  rw [hcA] at cb HZ M0 HR HTR HST ca ⊢
  clear hcA
  have HC := Lib.hid fun (w' : World) (h : w'.heap[w.heap.size]? = some (.cells cA 44 (0, 0))) => Bx.cell h b cb
  unfold XferTo
  go_enter Tryz.func120, Tryz.ntmps120
  go_upto_region 1 with fail
  refine Tl.start 10 (fun w' => w'.cell? ⟨w.heap.size, b, none⟩ = some (.int .u32 x) ∧ w'.cell? ⟨w.heap.size + 1, 2, none⟩ = some (.int .i64 (b : Int)) ∧ w'.cell? ⟨w.heap.size + 1, 4, none⟩ = some (.int .i32 i)) (by kernel_rfl) (⟨HC.out _ (M0.out.drew.blk 2 rfl), HI.out _ (M0.out.drew.blk 1 rfl)⟩) (fun hHeld => ?_)
  refine Tl.tf 0 (⟨some 14, .fieldAddr 123 (.tmp 5) 2, 0, "cpu.go:384", #[], none⟩ : Oper) ?v41 rfl ?hy41 (by assumption) ?_
  case hy41 => (intro w; go_simp; all_goals (with_reducible rfl))
  try simp only [Act.put, Tl.p2, Tl.p3, Tl.p4]
  refine Tl.tk 1 (⟨some 15, .load 3 (.tmp 14), 3, "cpu.go:384", #[⟨0, .data⟩], none⟩ : Oper) ?v42 rfl ?hy42 (by assumption) ?_
  case hy42 => (intro w hSw; (try dsimp only at hSw); go_simp; all_goals (with_reducible rfl))
  try simp only [Act.put, Tl.p2, Tl.p3, Tl.p4]
  refine Tl.tf 2 (⟨some 16, .fieldAddr 44 (.tmp 3) 0, 0, "cpu.go:384", #[], none⟩ : Oper) ?v43 rfl ?hy43 (by assumption) ?_
  case hy43 => (intro w; go_simp; all_goals (with_reducible rfl))
  try simp only [Act.put, Tl.p2, Tl.p3, Tl.p4]
  refine Tl.tf 3 (⟨some 17, .indexAddr 41 (.tmp 16) (.tmp 15), 0, "cpu.go:384", #[⟨2, .data⟩, ⟨1, .data⟩], none⟩ : Oper) ?v44 rfl ?hy44 (by assumption) ?_
  case hy44 => (intro w; go_simp; all_goals (with_reducible rfl))
  try simp only [Act.put, Tl.p2, Tl.p3, Tl.p4]
  refine Tl.tk 4 (⟨some 18, .load 40 (.tmp 17), 40, "cpu.go:384", #[⟨3, .data⟩], none⟩ : Oper) ?v45 rfl ?hy45 (by assumption) ?_
  case hy45 => (intro w hSw; (try dsimp only at hSw); go_simp; all_goals (with_reducible rfl))
  try simp only [Act.put, Tl.p2, Tl.p3, Tl.p4]
  refine Tl.tf 5 (⟨some 19, .fieldAddr 123 (.tmp 5) 4, 0, "cpu.go:384", #[], none⟩ : Oper) ?v46 rfl ?hy46 (by assumption) ?_
  case hy46 => (intro w; go_simp; all_goals (with_reducible rfl))
  try simp only [Act.put, Tl.p2, Tl.p3, Tl.p4]
  refine Tl.tk 6 (⟨some 20, .load 21 (.tmp 19), 21, "cpu.go:384", #[⟨5, .data⟩], none⟩ : Oper) ?v47 rfl ?hy47 (by assumption) ?_
  case hy47 => (intro w hSw; (try dsimp only at hSw); go_simp; all_goals (with_reducible rfl))
  try simp only [Act.put, Tl.p2, Tl.p3, Tl.p4]
  refine Tl.tf 7 (⟨some 21, .convert 21 40 (.tmp 20), 40, "cpu.go:384", #[⟨6, .data⟩], none⟩ : Oper) ?v48 rfl ?hy48 (by assumption) ?_
  case hy48 => (intro w; go_simp; all_goals (with_reducible rfl))
  try simp only [Act.put, Tl.p2, Tl.p3, Tl.p4]
  refine Tl.tf 8 (⟨some 22, .binOp .add 40 (.tmp 18) (.tmp 21) 40, 40, "cpu.go:384", #[⟨4, .data⟩, ⟨7, .data⟩], none⟩ : Oper) ?v49 rfl ?hy49 (by assumption) ?_
  case hy49 => (intro w; go_simp; all_goals (with_reducible rfl))
  try simp only [Act.put, Tl.p2, Tl.p3, Tl.p4]
  refine Tl.tf 9 (⟨some 7, .assign (.tmp 22), 40, "cpu.go:384", #[⟨8, .data⟩, ⟨0, .phase⟩, ⟨1, .phase⟩, ⟨2, .phase⟩, ⟨3, .phase⟩, ⟨4, .phase⟩, ⟨5, .phase⟩, ⟨6, .phase⟩, ⟨7, .phase⟩, ⟨8, .phase⟩], none⟩ : Oper) ?v50 rfl ?hy50 (by assumption) ?_
  case hy50 => (intro w; go_simp; all_goals (with_reducible rfl))
  try simp only [Act.put, Tl.p2, Tl.p3, Tl.p4]
  refine Tl.done (by kernel_rfl) ?_ _
  have M1 := Lib.hid M0.out.drew
  obtain ⟨⟨x0, x1, x2, x3, x4⟩, _, _⟩ := M1.out.box5 1 rfl
  clear M0
  go_upto_region 7 with fail
  go_wp2_with (show wpList _ _ _ ((⟨_, Op.load 44 _, _, _, _, _⟩ : Oper) :: _) _ _; refine Mem.go_loadAll 44 rfl rfl rfl 2 M1.out rfl uCpu (by rw [HZ.out]; exact sCpu) ?_)
  refine (HR.out _ _ M1.out.up3).mono ?_
  rintro e w5 ⟨ad, ca2, L2, rfl, had, hca0, hca1, had2, hL2, h5⟩
  have HL2 := Lib.hid hL2
  have M5 := Lib.hid h5.dn3
  clear h5 hL2 x0 x1 x2 x3 x4 M1
  obtain ⟨⟨x0, x1, x2, x3, x4⟩, _, _⟩ := M5.out.box5 1 rfl
  have zad : (ad : Int) ≤ 4294967295 := by omega
  by_cases hc0 : ca2 = 0
  · have hlt := had2 hc0
    subst hc0
    have y0 := M5.out.cell 2 rfl a ca
    go_wp2_with fail
    refine (HPU.out ad L2 _ hlt HL2.out _ M5.out.up3).mono ?_
    rintro e w6 ⟨rfl, L3, hL3, h6⟩
    have HL3 := Lib.hid hL3
    have M6 := Lib.hid h6.dn3
    clear h6 hL3
    have d16 := M6.out.cell 2 rfl 16 (by rw [hcA2.out]; exact wA_at (by rw [HOKC.out.len]; decide))
    have e16 := M6.out.free 2 rfl 16
    have M7' := M6.out.put 2 rfl 16 (.int .u32 ((C.getD 16 0 + 4) % 4294967296))
    rw [hcA2.out, wA_set] at M7'
    simp only [List.set_cons_zero, List.set_cons_succ] at M7'
    obtain ⟨p, hp⟩ : ∃ p, C.getD 16 0 = p := ⟨_, rfl⟩
    rw [hp] at d16 M7'
    clear hp
    have M7 := Lib.hid M7'
    clear M7'
    have HOK7 := Lib.hid (HOKC.out.set (j := 16) (v := (p + 4) % 4294967296) (mod_wd _))
    have hs : cA.setIfInBounds 16 (.int .u32 ((p + 4) % 4294967296)) = wA (C.set 16 ((p + 4) % 4294967296)) := by rw [hcA2.out, wA_set]
    clear hs
    go_upto_region 17 with fail
    go_wp2_with (first | (show wpList _ _ _ ((⟨_, Op.load 44 _, _, _, _, _⟩ : Oper) :: _) _ _; refine Mem.go_loadAll 44 rfl rfl rfl 2 M7.out rfl uCpu (by rw [wA_size, HOK7.out.len]; exact sCpu) ?_) | (show wpList _ _ _ ((⟨_, Op.store 44 _ _, _, _, _, _⟩ : Oper) :: _) _ _; refine Mem.go_storeAll 44 rfl rfl rfl rfl 0 M7.out rfl (by rw [wA_size, HOK7.out.len]; exact sCpu) (by rw [wA_size, HOK7.out.len]; rfl) (wA_one _) ?_; intro w8 M8'; have M8 := Lib.hid M8'; clear M8'))
    refine bodyPost_ret (Bx.res_c Tryz.results120 rfl (load_w (by rw [wA_size, HOK7.out.len]) (M8.out.blk 0 rfl))) rfl ?_
    exact ⟨_, _, rfl, HOK7.out, HL3.out, M8.out.rest.rest.rest⟩
  · have zc : (ca2 == 0) = false := by rw [beq_eq_false_iff_ne]; exact hc0
    have HTO2 := Lib.hid (HTO.out ca2 ⟨hca0, hca1⟩)
    go_wp2_with (show wpList _ _ _ ((⟨_, Op.load 44 _, _, _, _, _⟩ : Oper) :: _) _ _; refine Mem.go_loadAll 44 rfl rfl rfl 2 M5.out rfl uCpu (by rw [HZ.out]; exact sCpu) ?_)
    refine (HTR.out ca2 ⟨hca0, hca1⟩ _).mono ?_
    rintro e w6 ⟨rfl, h6⟩
    have M6 := Lib.hid (M5.out.keep h6)
    clear h6
    go_wp2_with (show wpList _ _ _ ((⟨_, Op.store 44 _ _, _, _, _, _⟩ : Oper) :: _) _ _; refine Mem.go_storeAll 44 rfl rfl rfl rfl 0 M6.out rfl (by rw [wA_size, HTO2.out.len]; exact sCpu) (by rw [wA_size, HTO2.out.len]; rfl) (wA_one _) ?_; intro w8 M8'; have M8 := Lib.hid M8'; clear M8')
    refine bodyPost_ret (Bx.res_c Tryz.results120 rfl (load_w (by rw [wA_size, HTO2.out.len]) (M8.out.blk 0 rfl))) rfl ?_
    exact ⟨_, _, rfl, HTO2.out, HL2.out, M8.out.rest.rest.rest⟩
end Ma
end Go.Proofs.YtdacgdokbfcgdaaGreat

namespace Go.Proofs.YtdacgdokbfcgdaaGreat.As
/-- Letters, digits, what a word goes on with. -/
def isL (c : UInt8) : Bool := decide (97 ≤ c.toNat) && decide (c.toNat ≤ 122)
def isD (c : UInt8) : Bool := decide (48 ≤ c.toNat) && decide (c.toNat ≤ 57)
def isW (c : UInt8) : Bool := isL c || isD c || decide (c = 95)
def isS (c : UInt8) : Bool := decide (c = 44) || decide (c = 58) || decide (c = 40) || decide (c = 41) || decide (c = 46)
structure Tok where
  k : Nat
  t : List UInt8
  g : Bool
def toks : Nat → Bool → List UInt8 → Option (List Tok)
  | _, _, [] => some []
  | 0, _, _ :: _ => none
  | n + 1, g, c :: r =>
    if c = 32 then toks n true r
    else if isL c = true then (toks n false (r.dropWhile isW)).map (⟨1, c :: r.takeWhile isW, g⟩ :: ·)
    else if (isD c || decide (c = 45)) = true then (toks n false (r.dropWhile isW)).map (⟨2, c :: r.takeWhile isW, g⟩ :: ·)
    else if isS c = true then (toks n false r).map (⟨3, [c], g⟩ :: ·)
    else none
def tokens (s : List UInt8) : Option (List Tok) := toks s.length true s
/-- Decimal digits read on. (What the sources here do not use is left out of these functions: they say none.) -/
def decL : Nat → List UInt8 → Option Nat
  | n, [] => some n
  | n, c :: r => if isD c = true then decL (10 * n + (c.toNat - 48)) r else none
def number (s : List UInt8) : Option Nat :=
  if s.length < 1 ∨ 10 < s.length then none else
  match decL 0 s with
  | none => none
  | some n => if n ≤ 4294967295 then some n else none
def regN (r : Nat) : List UInt8 := if r < 10 then [114, UInt8.ofNat (48 + r)] else [114, 49, UInt8.ofNat (38 + r)]
def regOf (s : List UInt8) : Option Nat := (List.range 16).find? fun r => s == regN r
def name (s : List UInt8) : Bool := decide (1 ≤ s.length) && decide (s.length ≤ 12) && (match s with | c :: _ => isL c | [] => false) && (regOf s).isNone
def form (op : Nat) : Nat :=
  if 1 ≤ op ∧ op ≤ 13 then 2
  else if op = 16 ∨ op = 23 ∨ (32 ≤ op ∧ op ≤ 36) ∨ (40 ≤ op ∧ op ≤ 45) ∨ op = 49 then 3
  else if 17 ≤ op ∧ op ≤ 19 then 4
  else if 20 ≤ op ∧ op ≤ 22 then 5
  else if op = 24 then 6
  else if op = 48 then 7
  else if op = 58 ∨ op = 59 then 8
  else if op = 60 ∨ op = 61 then 9
  else if op = 56 ∨ op = 57 ∨ (62 ≤ op ∧ op ≤ 64) then 1
  else 0
def bs (s : String) : List UInt8 := s.toUTF8.data.toList
def mnems : List (Nat × List UInt8) := [(1, [97, 100, 100]), (2, [115, 117, 98]), (3, [97, 110, 100]), (4, [111, 114]), (5, [120, 111, 114]), (6, [115, 104, 108]), (7, [115, 104, 114]), (8, [115, 97, 114]), (9, [109, 117, 108]), (10, [100, 105, 118]), (11, [114, 101, 109]), (12, [115, 108, 116]), (13, [115, 108, 116, 117]),
  (16, [97, 100, 100, 105]), (17, [97, 110, 100, 105]), (18, [111, 114, 105]), (19, [120, 111, 114, 105]), (20, [115, 104, 108, 105]), (21, [115, 104, 114, 105]), (22, [115, 97, 114, 105]), (23, [115, 108, 116, 105]), (24, [108, 117, 105]),
  (32, [108, 119]), (33, [108, 98]), (34, [108, 98, 117]), (35, [115, 119]), (36, [115, 98]), (40, [98, 101, 113]), (41, [98, 110, 101]), (42, [98, 108, 116]), (43, [98, 103, 101]), (44, [98, 108, 116, 117]), (45, [98, 103, 101, 117]), (48, [106, 97, 108]), (49, [106, 97, 108, 114]),
  (56, [101, 99, 97, 108, 108]), (57, [101, 114, 101, 116]), (58, [99, 115, 114, 114]), (59, [99, 115, 114, 119]), (60, [105, 110]), (61, [111, 117, 116]), (62, [119, 102, 105]), (63, [102, 108, 117, 115, 104]), (64, [104, 97, 108, 116])]
def mnem (op : Nat) : List UInt8 := match mnems.find? fun p => p.1 == op with | some p => p.2 | none => []
/-- The operation of a mnemonic, looked for from one on. -/
def opFrom (s : List UInt8) : Nat → Nat → Nat
  | 0, _ => 0
  | n + 1, op => if (decide (0 < form op) && (mnem op == s)) = true then op else opFrom s n (op + 1)
def operation (s : List UInt8) : Nat := opFrom s 64 1
def pattern (w : List UInt8) : Option (List UInt8) :=
  if w = [46, 119, 111, 114, 100] then some [120]
  else if w = [46, 115, 112, 97, 99, 101] then some [110]
  else if w = [108, 105] then some [114, 44, 120]
  else if w = [109, 118] then some [114, 44, 114]
  else if w = [110, 111, 112] then some []
  else if operation w = 0 then none
  else if 32 ≤ operation w ∧ operation w ≤ 36 then some [114, 44, 110, 40, 114, 41]
  else if 40 ≤ operation w ∧ operation w ≤ 45 then some [114, 44, 114, 44, 120]
  else if operation w = 48 then some [114, 44, 120]
  else if form (operation w) = 1 then some []
  else if form (operation w) = 2 then some [114, 44, 114, 44, 114]
  else if 6 ≤ form (operation w) then some [114, 44, 110]
  else some [114, 44, 114, 44, 110]
structure Arg where
  r : Nat
  n : Nat
  l : List UInt8
def argOf (t : Tok) (c : UInt8) : Option (Option Arg) :=
  if c = 114 then (match regOf t.t with | some r => if t.k = 1 then some (some ⟨r, 0, []⟩) else none | none => none)
  else if c = 110 ∨ c = 120 then
    (if (decide (c = 120) && decide (t.k = 1) && name t.t) = true then some (some ⟨0, 0, t.t⟩)
     else match number t.t with | some n => if t.k = 2 then some (some ⟨0, n, []⟩) else none | none => none)
  else if (decide (t.k = 3) && decide (t.t = [c])) = true then some none else none
def matchL : List Tok → List UInt8 → Option (List Arg)
  | [], [] => some []
  | t :: l, c :: p => match argOf t c with
    | none => none
    | some none => matchL l p
    | some (some a) => (matchL l p).map (a :: ·)
  | _, _ => none
def matched (l : List Tok) (p : List UInt8) : Option (List Arg) := if l.length ≠ p.length then none else matchL l p
structure Stm where
  w : List UInt8
  op : Nat
  l : List Arg
  line : Nat
  at_ : Nat
  sz : Nat
/-- A statement without its label. -/
def stmOf (l : List Tok) : Option Stm :=
  match l with
  | [] => none
  | t :: r =>
    if t.t = [46] ∨ t.t = [] then none else
    match pattern t.t with
    | none => none
    | some p =>
      if (match r with | v :: _ => !v.g | [] => false) = true then none else
      match matched r p with
      | none => none
      | some a => if t.t = [46, 115, 112, 97, 99, 101] then none else some ⟨t.t, operation t.t, a, 0, 0, if t.t = [108, 105] then 2 else 1⟩
def parsed (s : List UInt8) : Option (List UInt8 × Stm) :=
  if s.any (fun c => decide (c = 59)) = true then none else
  match tokens s with
  | none => none
  | some l =>
    match l with
    | t :: u :: r => if u.t = [58] then (if (decide (t.k = 1) && name t.t) = true then (stmOf r).map (t.t, ·) else none) else (stmOf l).map ([], ·)
    | _ => (stmOf l).map ([], ·)
def lines : List UInt8 → List (List UInt8)
  | [] => []
  | s@(_ :: _) => go s []
where go : List UInt8 → List UInt8 → List (List UInt8)
  | [], acc => if acc = [] then [] else [acc]
  | c :: r, acc => if c = 10 then acc :: go r [] else go r (acc ++ [c])
structure Sym where
  n : List UInt8
  a : Nat
def address (l : List Sym) (x : List UInt8) : Option Nat := (l.find? fun s => s.n == x).map Sym.a
structure Rd where
  l : List Sym
  s : List Stm
  at_ : Nat
def readL : List (List UInt8) → Nat → Rd → Option Rd
  | [], _, r => some r
  | x :: xs, i, r => match parsed x with
    | none => none
    | some (lb, st) =>
      if (decide (lb ≠ []) && (address r.l lb).isSome) = true then none else
      let r1 : Rd := if lb ≠ [] then { r with l := r.l ++ [⟨lb, 4 * r.at_⟩] } else r
      let r2 : Rd := if st.w ≠ [] then { r1 with s := r1.s ++ [{ st with line := i + 1, at_ := r1.at_ }], at_ := r1.at_ + st.sz } else r1
      if 1024 < r2.at_ then none else readL xs (i + 1) r2
def read (src : List UInt8) : Option Rd := if 8192 < src.length then none else readL (lines src) 0 ⟨[], [], 0⟩
def bounds (f : Nat) : Int × Int := if f = 3 ∨ f = 7 then (-32768, 32767) else if f = 4 ∨ f = 6 then (0, 65535) else if f = 5 then (0, 31) else if f = 8 then (0, 7) else if f = 9 then (0, 11) else (0, 0)
structure Ins where
  op : Nat
  a : Nat
  b : Nat
  c : Nat
  i : Int
def validI (x : Ins) : Bool :=
  decide (form x.op ≠ 0) && decide (x.a ≤ 15) && decide (x.b ≤ 15) && decide (x.c ≤ 15) && decide ((bounds (form x.op)).1 ≤ x.i) && decide (x.i ≤ (bounds (form x.op)).2)
  && (decide (form x.op = 2) || decide (x.c = 0)) && (decide (form x.op ≠ 1) || decide (x.a = 0)) && (decide (x.b = 0) || (decide (2 ≤ form x.op) && decide (form x.op ≤ 5)))
/-- The word of an instruction's fields. -/
def encN (op a b c : Nat) (i : Int) : Nat := op * 16777216 + a * 1048576 + b * 65536 + ((i % 65536).toNat ||| c)
def enc (x : Ins) : Option Nat := if validI x = true then some (encN x.op x.a x.b x.c x.i) else none
/-- The instruction of a statement, with the value of its last operand. -/
def insOf (s : Stm) (v : Int) : Option Ins :=
  if form s.op = 2 then (match s.l with | [a, b, c] => some ⟨s.op, a.r, b.r, c.r, 0⟩ | _ => none)
  else if 32 ≤ s.op ∧ s.op ≤ 36 then (match s.l with | [a, m, b] => some ⟨s.op, a.r, b.r, 0, (m.n : Int)⟩ | _ => none)
  else if 6 ≤ form s.op then (match s.l with | [a, _] => some ⟨s.op, a.r, 0, 0, v⟩ | _ => none)
  else if form s.op ≠ 1 then (match s.l with | [a, b, _] => some ⟨s.op, a.r, b.r, 0, v⟩ | _ => none)
  else (match s.l with | [] => some ⟨s.op, 0, 0, 0, 0⟩ | _ => none)
def inst (s : Stm) (v : Int) : Option Nat := match insOf s v with | none => none | some x => enc x
def valOf (l : List Sym) (s : Stm) : Option Int :=
  match s.l.getLast? with
  | none => some 0
  | some a => if a.l = [] then some (a.n : Int) else match address l a.l with
    | none => none
    | some d => some (if 0 < s.op then ((d / 4 : Nat) : Int) - (s.at_ : Int) else (d : Int))
def codeOf (s : Stm) (v : Int) : Option (List Nat) :=
  if s.w = [46, 119, 111, 114, 100] ∨ s.w = [46, 115, 112, 97, 99, 101] ∨ s.w = [109, 118] ∨ s.w = [110, 111, 112] then none
  else if s.w = [108, 105] then (match s.l with
    | [a, _] => if 0 ≤ v ∧ v ≤ 4294967295 then (match enc ⟨24, a.r, 0, 0, v / 65536⟩, enc ⟨18, a.r, a.r, 0, v % 65536⟩ with
      | some x, some y => some [x, y]
      | _, _ => none) else none
    | _ => none)
  else (inst s v).map fun w => [w]
def codeL (y : List Sym) : List Stm → Option (List Nat)
  | [] => some []
  | s :: l => match valOf y s with
    | none => none
    | some v => match codeOf s v with
      | none => none
      | some c => (codeL y l).map (c ++ ·)
def asm (src : List UInt8) : Option (List Nat) := match read src with | none => none | some r => codeL r.l r.s
def echoS : List UInt8 := [108, 111, 111, 112, 58, 32, 105, 110, 32, 114, 49, 44, 32, 49, 10, 98, 101, 113, 32, 114, 49, 44, 32, 114, 48, 44, 32, 108, 111, 111, 112, 10, 105, 110, 32, 114, 50, 44, 32, 48, 10, 111, 117, 116, 32, 114, 50, 44, 32, 48, 10, 106, 97, 108, 32, 114, 48, 44, 32, 108, 111, 111, 112, 10]
def kernS : List UInt8 := [108, 105, 32, 114, 49, 44, 32, 104, 97, 110, 100, 108, 101, 114, 10, 99, 115, 114, 119, 32, 114, 49, 44, 32, 49, 10, 108, 105, 32, 114, 49, 44, 32, 51, 49, 10, 99, 115, 114, 119, 32, 114, 49, 44, 32, 55, 10, 108, 105, 32, 114, 49, 44, 32, 52, 10, 99, 115, 114, 119, 32, 114, 49, 44, 32, 54, 10, 108, 105, 32, 114, 50, 44, 32, 53, 49, 50, 10, 108, 105, 32, 114, 51, 44, 32, 48, 10, 108, 105, 32, 114, 52, 44, 32, 56, 10, 109, 97, 112, 58, 32, 115, 104, 108, 105, 32, 114, 53, 44, 32, 114, 51, 44, 32, 56, 10, 111, 114, 105, 32, 114, 53, 44, 32, 114, 53, 44, 32, 55, 10, 115, 104, 108, 105, 32, 114, 54, 44, 32, 114, 51, 44, 32, 50, 10, 97, 100, 100, 32, 114, 54, 44, 32, 114, 54, 44, 32, 114, 50, 10, 115, 119, 32, 114, 53, 44, 32, 48, 40, 114, 54, 41, 10, 97, 100, 100, 105, 32, 114, 51, 44, 32, 114, 51, 44, 32, 49, 10, 98, 108, 116, 32, 114, 51, 44, 32, 114, 52, 44, 32, 109, 97, 112, 10, 108, 105, 32, 114, 49, 44, 32, 54, 10, 111, 117, 116, 32, 114, 49, 44, 32, 55, 10, 108, 105, 32, 114, 49, 44, 32, 50, 10, 111, 117, 116, 32, 114, 49, 44, 32, 57, 10, 108, 105, 32, 114, 49, 44, 32, 49, 48, 48, 10, 111, 117, 116, 32, 114, 49, 44, 32, 51, 10, 108, 105, 32, 114, 49, 44, 32, 54, 52, 48, 10, 99, 115, 114, 119, 32, 114, 49, 44, 32, 50, 10, 108, 105, 32, 114, 49, 44, 32, 50, 49, 10, 99, 115, 114, 119, 32, 114, 49, 44, 32, 48, 10, 101, 114, 101, 116, 10, 104, 97, 110, 100, 108, 101, 114, 58, 32, 99, 115, 114, 119, 32, 114, 49, 44, 32, 53, 10, 99, 115, 114, 114, 32, 114, 49, 44, 32, 51, 10, 115, 108, 116, 105, 32, 114, 49, 44, 32, 114, 49, 44, 32, 49, 54, 10, 98, 101, 113, 32, 114, 49, 44, 32, 114, 48, 44, 32, 105, 114, 113, 10, 99, 115, 114, 114, 32, 114, 49, 44, 32, 50, 10, 97, 100, 100, 105, 32, 114, 49, 44, 32, 114, 49, 44, 32, 52, 10, 99, 115, 114, 119, 32, 114, 49, 44, 32, 50, 10, 105, 110, 32, 114, 51, 44, 32, 50, 10, 111, 117, 116, 32, 114, 51, 44, 32, 48, 10, 108, 105, 32, 114, 49, 44, 32, 49, 10, 111, 117, 116, 32, 114, 49, 44, 32, 52, 10, 108, 105, 32, 114, 49, 44, 32, 55, 10, 111, 117, 116, 32, 114, 49, 44, 32, 53, 10, 97, 110, 100, 105, 32, 114, 49, 44, 32, 114, 50, 44, 32, 49, 10, 97, 100, 100, 105, 32, 114, 49, 44, 32, 114, 49, 44, 32, 49, 10, 111, 117, 116, 32, 114, 49, 44, 32, 54, 10, 99, 115, 114, 114, 32, 114, 49, 44, 32, 53, 10, 101, 114, 101, 116, 10, 105, 114, 113, 58, 32, 105, 110, 32, 114, 49, 44, 32, 48, 10, 111, 117, 116, 32, 114, 49, 44, 32, 48, 10, 111, 117, 116, 32, 114, 48, 44, 32, 54, 10, 111, 117, 116, 32, 114, 48, 44, 32, 57, 10, 108, 105, 32, 114, 49, 44, 32, 54, 10, 111, 117, 116, 32, 114, 49, 44, 32, 55, 10, 108, 105, 32, 114, 49, 44, 32, 50, 10, 111, 117, 116, 32, 114, 49, 44, 32, 57, 10, 105, 110, 32, 114, 49, 44, 32, 50, 10, 97, 100, 100, 105, 32, 114, 49, 44, 32, 114, 49, 44, 32, 50, 48, 10, 111, 117, 116, 32, 114, 49, 44, 32, 51, 10, 105, 110, 32, 114, 49, 44, 32, 49, 48, 10, 111, 117, 116, 32, 114, 49, 44, 32, 49, 48, 10, 99, 115, 114, 114, 32, 114, 49, 44, 32, 53, 10, 101, 114, 101, 116, 10]
theorem asm_kern : ((asm kernS).map List.length) = some 75 := by decide +kernel
end Go.Proofs.YtdacgdokbfcgdaaGreat.As

namespace Go.Proofs.YtdacgdokbfcgdaaGreat
open Go.RowKit Go.BigFrame Go.Lib
namespace As
theorem letter_any (c : UInt8) (w : World) : Calls Tryz.prog 132 #[.int .u8 (c.toNat : Int)] w fun e w' => e = .returned (.bool (isL c)) ∧ w = w' := by
  by_cases h : 97 ≤ c.toNat
  · have z : (97 : Int) ≤ c.toNat := by omega
    have hr : isL c = decide ((c.toNat : Int) ≤ 122) := by unfold isL; rw [decide_eq_true h, Bool.true_and, decide_eq_decide]; omega
    rw [hr]
    clear hr
    go_enter Tryz.func132, Tryz.ntmps132
    go_wp2
    go_ret
    exact ⟨rfl, rfl⟩
  · have z : ¬ (97 : Int) ≤ c.toNat := by omega
    have hr : isL c = false := by unfold isL; rw [decide_eq_false h]; rfl
    rw [hr]
    clear hr
    go_enter Tryz.func132, Tryz.ntmps132
    go_wp2
    go_ret
    exact ⟨rfl, rfl⟩
theorem digit_any (c : UInt8) (w : World) : Calls Tryz.prog 133 #[.int .u8 (c.toNat : Int)] w fun e w' => e = .returned (.bool (isD c)) ∧ w = w' := by
  by_cases h : 48 ≤ c.toNat
  · have z : (48 : Int) ≤ c.toNat := by omega
    have hr : isD c = decide ((c.toNat : Int) ≤ 57) := by unfold isD; rw [decide_eq_true h, Bool.true_and, decide_eq_decide]; omega
    rw [hr]
    clear hr
    go_enter Tryz.func133, Tryz.ntmps133
    go_wp2
    go_ret
    exact ⟨rfl, rfl⟩
  · have z : ¬ (48 : Int) ≤ c.toNat := by omega
    have hr : isD c = false := by unfold isD; rw [decide_eq_false h]; rfl
    rw [hr]
    clear hr
    go_enter Tryz.func133, Tryz.ntmps133
    go_wp2
    go_ret
    exact ⟨rfl, rfl⟩
def StrTo (l : List UInt8) (w : World) (e : Ending) (w' : World) : Prop := e = .returned (.string ⟨l.toArray⟩) ∧ Held w w'
def dig (n : Nat) : List UInt8 := if n < 10 then [UInt8.ofNat (48 + n)] else [49, UInt8.ofNat (38 + n)]
theorem ofN {n : Nat} (h : n < 256) : ((UInt8.ofNat n).toNat : Int) = (n : Int) := by
  have : (UInt8.ofNat n).toNat = n := by simp; omega
  rw [this]
theorem digits_small (n : Nat) (hn : n < 10) (w : World) : Calls Tryz.prog 162 #[.int .u64 (n : Int)] w (StrTo [UInt8.ofNat (48 + n)] w) := by
  have z : (n : Int) < 10 := by omega
  obtain ⟨c, hcn⟩ : ∃ c, UInt8.ofNat (48 + n) = c := ⟨_, rfl⟩
  have hc := By.one_cell w (48 + (n : Int)) c (by rw [← hcn, ofN (by omega)]; push_cast; rfl) 5
  have hb := By.bytes_back (w.alloc (.cells #[.int .u8 (48 + (n : Int))] 5)) ⟨w.heap.size, 0, none⟩ 1 [c] hc
  have hH := Lib.hid ((Held.refl w).alloc (.cells #[.int .u8 (48 + (n : Int))] 5))
  simp only [List.length_singleton] at hb
  rw [hcn]
  clear hc hcn
  go_enter Tryz.func162, Tryz.ntmps162
  go_wp2
  go_ret
  exact ⟨rfl, hH.out⟩
set_option maxHeartbeats 2000000 in
theorem digits_any (n : Nat) (hn : n < 16) (w : World) : Calls Tryz.prog 162 #[.int .u64 (n : Int)] w (StrTo (dig n) w) := by
  by_cases h10 : n < 10
  · have := digits_small n h10 w
    unfold dig
    rw [if_pos h10]
    exact this
  · obtain ⟨m, rfl⟩ : ∃ m, n = 10 + m := ⟨n - 10, by omega⟩
    have hm : m < 6 := by omega
    have e : dig (10 + m) = [49, UInt8.ofNat (48 + m)] := by unfold dig; rw [if_neg h10]; congr 3; omega
    rw [e]
    obtain ⟨c, hcn⟩ : ∃ c, UInt8.ofNat (48 + m) = c := ⟨_, rfl⟩
    have hce : (48 + (m : Int)) = (c.toNat : Int) := by rw [← hcn, ofN (by omega)]; push_cast; rfl
    have HD := Lib.hid fun w => (show Calls Tryz.prog 162 #[.int .u64 1] w (StrTo [49] w) from digits_small 1 (by decide) w)
    obtain ⟨n, hn'⟩ : ∃ n : Nat, 10 + m = n := ⟨_, rfl⟩
    rw [hn']
    have t1 : (n : Int).tdiv 10 = 1 := by rw [Int.tdiv_eq_ediv_of_nonneg (by omega)]; omega
    have t2 : (n : Int).tmod 10 = (m : Int) := by rw [Int.tmod_eq_emod_of_nonneg (by omega)]; omega
    have q1 : IntKind.u64.wrap ((n : Int).tdiv 10) = 1 := by rw [t1]; rfl
    have q2 : IntKind.u64.wrap ((n : Int).tmod 10) = (m : Int) := by rw [t2, IntKind.wrap_u64]; omega
    have q3 : IntKind.u64.wrap (c.toNat : Int) = (c.toNat : Int) := by rw [IntKind.wrap_u64]; omega
    have q4 : IntKind.u8.wrap (c.toNat : Int) = (c.toNat : Int) := by rw [IntKind.wrap_u8]; omega
    have q5 : IntKind.u64.wrap 1 = 1 := rfl
    have z : ¬ (n : Int) < 10 := by omega
    rw [hcn]
    have HC := Lib.hid fun (w' : World) => By.one_cell w' (c.toNat : Int) c rfl 5
    have HB0 := Lib.hid fun (w' a : World) (k : Held (w'.alloc (.cells #[.int .u8 (c.toNat : Int)] 5)) a) => By.bytes_back a ⟨w'.heap.size, 0, none⟩ 1 [c] (fun j hj => k.cell (HC.out w' j hj))
    simp only [List.length_singleton] at HB0
    have hb1 := HB0.out w _ ((Held.refl _).drew)
    clear hcn e HC hn hn' h10
    go_enter Tryz.func162, Tryz.ntmps162
    go_wp2
    go_region_law (first
      | (go_simp; go_at_call 162; refine (HD.out _).mono ?_; rintro e w4 ⟨rfl, h4⟩; have hb2 := HB0.out w _ ((Held.refl _).drew.step h4); have k4 := (((Held.refl w).alloc _).drew.step h4); clear h4)
      | (go_simp; go_at_call 162; refine (HD.out _).mono ?_; rintro e w4 ⟨rfl, h4⟩; have hb2 := HB0.out w4 _ (Held.refl _); have k4 := ((Held.refl w).drew.step h4).alloc (.cells #[.int .u8 (c.toNat : Int)] 5); clear h4))
    all_goals
      go_wp2
      go_ret
      exact ⟨rfl, k4⟩
end As
end Go.Proofs.YtdacgdokbfcgdaaGreat

namespace Go.Proofs.YtdacgdokbfcgdaaGreat
open Go.RowKit Go.BigFrame Go.Lib
namespace As
/-- An equation in a box. -/
structure Is {α : Type} (a b : α) : Prop where
  out : a = b
theorem decimal_any (n : Nat) (hn : n < 16) (w : World) : Calls Tryz.prog 161 #[.int .i64 (n : Int)] w (StrTo (dig n) w) := by
  have z : ¬ (n : Int) < 0 := by omega
  have z2 : (n : Int) < 16 := by omega
  have HD := Lib.hid fun w => digits_any n hn w
  clear hn
  go_enter Tryz.func161, Tryz.ntmps161
  go_wp2_with fail
  refine (HD.out _).mono ?_
  rintro e w2 ⟨rfl, h2⟩
  go_wp2
  go_ret
  exact ⟨rfl, h2⟩
theorem regN_dig (r : Nat) : regN r = 114 :: dig r := by unfold regN dig; split <;> rfl
theorem dig_len (r : Nat) : (dig r).length ≤ 2 := by unfold dig; split <;> simp
theorem cat_eq (a : UInt8) (d : List UInt8) : (⟨#[a]⟩ : ByteArray) ++ ⟨d.toArray⟩ = ⟨(a :: d).toArray⟩ := by
  apply ByteArray.ext
  simp
theorem reg_any (r : Nat) (hr : r < 16) (w : World) : Calls Tryz.prog 159 #[.int .i64 (r : Int)] w (StrTo (regN r) w) := by
  have z2 : (r : Int) < 16 := by omega
  have HD := Lib.hid fun w => decimal_any r hr w
  have hd := dig_len r
  rw [regN_dig]
  generalize dig r = d at HD hd
  have hd2 : ¬ 9223372036854775807 < 1 + d.length := by omega
  clear hr
  go_enter Tryz.func159, Tryz.ntmps159
  go_wp2_with fail
  refine (HD.out _).mono ?_
  rintro e w2 ⟨rfl, h2⟩
  go_wp2
  go_ret
  exact ⟨by rw [← cat_eq]; rfl, h2⟩
/-- The registers from one on. -/
def regFrom (s : List UInt8) (q : Nat) : Option Nat := ((List.range 16).drop q).find? fun r => s == regN r
theorem regFrom_step (s : List UInt8) (q : Nat) (h : q < 16) : regFrom s q = if s = regN q then some q else regFrom s (q + 1) := by
  unfold regFrom
  have hl : q < (List.range 16).length := by rw [List.length_range]; exact h
  rw [List.drop_eq_getElem_cons hl, List.find?_cons, List.getElem_range]
  by_cases e : s = regN q
  · rw [if_pos e]; simp [e]
  · have e2 : (s == regN q) = false := by rw [beq_eq_false_iff_ne]; exact e
    rw [if_neg e, e2]
theorem regFrom_end (s : List UInt8) : regFrom s 16 = none := rfl
def RegTo (o : Option Nat) (w : World) (e : Ending) (w' : World) : Prop := e = .returned (.tuple #[.int .i64 ((o.getD 0 : Nat) : Int), .bool o.isSome]) ∧ Held w w'
theorem ba_eq (s : ByteArray) (l : List UInt8) : (s.toList == l) = decide (s.data.toList = l) := by
  rw [ByteArray.toList_eq]
  by_cases h : s.data.toList = l
  · simp [h]
  · rw [decide_eq_false h, beq_eq_false_iff_ne]; exact h
set_option maxHeartbeats 2000000 in
theorem registerOf_any (s : ByteArray) (w : World) : Calls Tryz.prog 134 #[.string s] w (RegTo (regOf s.data.toList) w) := by
  have HR := Lib.hid fun (r : Nat) (h : r < 16) (w : World) => reg_any r h w
  unfold StrTo at HR
  obtain ⟨o, ho⟩ : ∃ o, regOf s.data.toList = o := ⟨_, rfl⟩
  have HO := Lib.hid ho
  rw [ho]
  clear ho
  go_enter Tryz.func134, Tryz.ntmps134
  go_wp2
  go_loopw [4] (fun i wr => ∃ q : Nat, i = .int .i64 (q : Int) ∧ q ≤ 16 ∧ regFrom s.data.toList q = o ∧ Held w wr) (fun i _ => 16 - (RowKit.intOf i).toNat)
  case atStart => exact ⟨0, rfl, Nat.zero_le _, HO.out, Held.refl _⟩
  case round =>
    obtain ⟨q, rfl, hq, hf, hh⟩ := hrel
    have HF := Lib.hid hf
    have HH := Lib.hid hh
    clear hf hh
    by_cases hlt : q < 16
    · have z : (q : Int) < 16 := by omega
      have HS := Lib.hid (regFrom_step s.data.toList q hlt)
      obtain ⟨l, hl⟩ : ∃ l, regN q = l := ⟨_, rfl⟩
      have HRq := Lib.hid fun w => HR.out q hlt w
      rw [hl] at HRq HS
      have heq := ba_eq s l
      by_cases hs : s.data.toList = l
      · have HO2 : Is o (some q) := ⟨by rw [← HF.out, HS.out, if_pos hs]⟩
        rw [decide_eq_true hs] at heq
        clear hs HS HF hl
        go_wp2_with fail
        refine (HRq.out _).mono ?_
        rintro e w2 ⟨rfl, h2⟩
        go_wp2
        go_ret2
        exact ⟨by rw [HO2.out]; rfl, HH.out.step h2⟩
      · have HO2 := Lib.hid (show regFrom s.data.toList (q + 1) = o by rw [← HF.out, HS.out, if_neg hs])
        rw [decide_eq_false hs] at heq
        clear hs HS HF hl
        go_wp2_with fail
        refine (HRq.out _).mono ?_
        rintro e w2 ⟨rfl, h2⟩
        go_wp2
        go_roundw
        case rel => exact ⟨q + 1, by go_num, by omega, HO2.out, HH.out.step h2⟩
        case measure => (simp [RowKit.intOf]) <;> omega
    · obtain rfl : q = 16 := by omega
      have z : ¬ ((16 : Nat) : Int) < 16 := by omega
      have HO2 : Is o none := ⟨by rw [← HF.out]; exact regFrom_end _⟩
      go_wp2
      go_ret2
      exact ⟨by rw [HO2.out]; rfl, HH.out⟩
end As
end Go.Proofs.YtdacgdokbfcgdaaGreat

namespace Go.Proofs.YtdacgdokbfcgdaaGreat
open Go.RowKit Go.BigFrame Go.Lib
namespace As
def BoolTo (b : Bool) (w : World) (e : Ending) (w' : World) : Prop := e = .returned (.bool b) ∧ Held w w'
theorem len_b (s : ByteArray) : s.data.toList.length = s.size := by simp
/-- A string's first byte. -/
theorem fst_b {s : ByteArray} (h : 0 < s.size) : ∃ r, s.data.toList = s[0] :: r := by
  cases e : s.data.toList with
  | nil => have := len_b s; rw [e] at this; simp at this; omega
  | cons a r =>
    refine ⟨r, ?_⟩
    congr 1
    have h2 : s.data.toList[0]'(by rw [len_b]; exact h) = s[0] := rfl
    rw [← h2]
    simp only [e]
    rfl
theorem fst_x {s : ByteArray} (h : 0 < s.size) : ∃ (c : UInt8) (r : List UInt8), s.data.toList = c :: r ∧ ∀ w, (Instr.index 9 (.string s) (.int .i64 0)).run Tryz.prog w = .ok (.int .u8 (c.toNat : Int)) w := by
  obtain ⟨r, hr⟩ := fst_b h
  exact ⟨s[0], r, hr, By.idx s 0 0 rfl h⟩
set_option maxHeartbeats 2000000 in
theorem name_any (s : ByteArray) (hs : s.size ≤ 9223372036854775807) (w : World) : Calls Tryz.prog 106 #[.string s] w (BoolTo (name s.data.toList) w) := by
  have HR := Lib.hid (registerOf_any s w)
  unfold RegTo at HR
  obtain ⟨o, ho⟩ : ∃ o, regOf s.data.toList = o := ⟨_, rfl⟩
  have hN : name s.data.toList = (decide (1 ≤ s.size) && decide (s.size ≤ 12) && (match s.data.toList with | c :: _ => isL c | [] => false) && o.isNone) := by unfold name; rw [ho, len_b] <;> rfl
  obtain ⟨v, hv⟩ : ∃ v, name s.data.toList = v := ⟨_, rfl⟩
  rw [hv] at hN ⊢
  rw [ho] at HR
  have HN := Lib.hid hN
  obtain ⟨r, hr⟩ : ∃ r, o.getD 0 = r := ⟨_, rfl⟩
  rw [hr] at HR
  clear hN hv ho hr
  by_cases h1 : 1 ≤ s.size
  · have z1 : (1 : Int) ≤ s.size := by omega
    obtain ⟨c, t, hc, hi⟩ := fst_x (s := s) (by omega)
    by_cases h2 : s.size ≤ 12
    · have z2 : (s.size : Int) ≤ 12 := by omega
      have HL := Lib.hid fun w => letter_any c w
      have HV : Is v (isL c && o.isNone) := ⟨by rw [HN.out, hc]; simp [h1, h2]⟩
      generalize isL c = lc at HL HV
      clear HN hc h1 h2
      go_enter Tryz.func106, Tryz.ntmps106
      go_wp2_with fail
      refine HR.out.mono ?_
      rintro e w2 ⟨rfl, h3⟩
      dsimp only
      have K := Lib.hid h3
      clear h3
      cases lc
      · go_wp2_with fail
        refine (HL.out _).mono ?_
        rintro e w3 ⟨rfl, rfl⟩
        go_wp2
        go_ret
        exact ⟨by rw [HV.out]; rfl, K.out⟩
      · go_wp2_with fail
        refine (HL.out _).mono ?_
        rintro e w3 ⟨rfl, rfl⟩
        cases o
        · go_wp2
          go_ret
          exact ⟨by rw [HV.out]; rfl, K.out⟩
        · go_wp2
          go_ret
          exact ⟨by rw [HV.out]; rfl, K.out⟩
    · have z2 : ¬ (s.size : Int) ≤ 12 := by omega
      have HV : Is v false := ⟨by rw [HN.out]; simp [h2]⟩
      clear HN hc h2
      go_enter Tryz.func106, Tryz.ntmps106
      go_wp2_with fail
      refine HR.out.mono ?_
      rintro e w2 ⟨rfl, h3⟩
      dsimp only
      go_wp2
      go_ret
      exact ⟨by rw [HV.out]; rfl, h3⟩
  · have z1 : ¬ (1 : Int) ≤ s.size := by omega
    have HV : Is v false := ⟨by rw [HN.out]; simp [h1]⟩
    clear HN h1
    go_enter Tryz.func106, Tryz.ntmps106
    go_wp2_with fail
    refine HR.out.mono ?_
    rintro e w2 ⟨rfl, h3⟩
    dsimp only
    go_wp2
    go_ret
    exact ⟨by rw [HV.out]; rfl, h3⟩
end As
end Go.Proofs.YtdacgdokbfcgdaaGreat
